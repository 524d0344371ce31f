/- A part of the proof of the last text of this claim, without conditions. -/
import Derived.Test.YtjbigbaipmiihaaGreatC
set_option maxRecDepth 4000
set_option linter.all false
namespace Go.Mt
structure TI where
 sz:Option Nat
 ag:Option Bool
 zr:Option D
 se:Option Nat
 ik:Option IntKind
 pl:Option (List (Nat×Nat))
def NF(P:Program)(t:Nat):Option Nat:=match P.underlying t with
 |some (.slice e)=>some e
 |_=>none
def NG(P:Program)(t:Nat):Option IntKind:=match P.underlying t with
 |some (.int k)=>some k
 |_=>none
def Nb(P:Program)(t:Nat):TI:=⟨gm P t,u_ P t,uz P t,NF P t,NG P t,qZ P t⟩
structure nE(P:Program)where
 tb:List (Nat×TI)
 ok:tb=(tb.map Prod.fst).map λt=>(t,Nb P t)
theorem nE.get{P:Program}(C:nE P){t:Nat}{e:TI}(h:get C.tb t=some e):e=Nb P t:=by
 have b:=get_mem h;rw[C.ok]at b;obtain⟨d,_,a⟩:=ava.1 b;injection a with a c
 subst a;exact c.symm
section
variable{P:Program}(C:nE P)
theorem nE.sz{t n:Nat}{e:TI}(h:Mt.get C.tb t=some e)(a:e.sz=some n):bY P t n:=⟨by rw[C.get h]at a;exact a⟩
theorem nE.cell{t:Nat}{e:TI}(h:Mt.get C.tb t=some e)(a:e.ag=some false):cB P t:=⟨by rw[C.get h]at a;exact a⟩
theorem nE.agg{t n:Nat}{e:TI}(h:Mt.get C.tb t=some e)(a:e.ag=some true)(b:e.sz=some n):jM P t n:=⟨by rw[C.get h]at a;exact a,by rw[C.get h]at b;exact b⟩
theorem nE.zr{t:Nat}{z:D}{e:TI}(h:Mt.get C.tb t=some e)(a:e.zr=some z):g_ P t z:=⟨by rw[C.get h]at a;exact a⟩
theorem nE.slice{t n:Nat}{e:TI}(h:Mt.get C.tb t=some e)(b:e.se=some n):aZ P t n:=⟨by
 rw[C.get h]at b;have a:NF P t=some n:=b;unfold NF at a;split at a
 ·grind
 ·cases a⟩
theorem nE.int{t:Nat}{k:IntKind}{e:TI}(h:Mt.get C.tb t=some e)(b:e.ik=some k):mh P t k:=⟨by
 rw[C.get h]at b;have a:NG P t=some k:=b;unfold NG at a;split at a
 ·grind
 ·cases a⟩
theorem nE.str{t:Nat}{ps:List (Nat×Nat)}{z:List D}{e:TI}(h:Mt.get C.tb t=some e)(a:e.pl=some ps)(b:e.zr=some (.agg z)):k7 P t ps z:=
 ⟨by rw[C.get h]at a;exact a,by rw[C.get h]at b;exact b⟩
theorem D9{h d:Type}{f:h->Option d} : ∀{l:List h} {ps:List d} {i:Nat} {y:d},l.mapM f=some ps->ps[i]?=some y-> ∃x,l[i]?=some x/\f x=some y
 | [],ps,i,y,a,e=>by grind
 |j::l,ps,i,y,a,e=>by
  rw[axb]at a;cases c:f j with
  |none=>simp[c]at a
  |some b=>
   cases g:l.mapM f with
   |none=>simp[c,g]at a
   |some k=>
    simp[c,g]at a;subst a;cases i with
    |zero=>simp at e;subst e;exact⟨j,W,c⟩
    |succ i=>
     obtain⟨x,n,m⟩:=D9 g (show k[i]?=some y by grind);exact⟨x,by grind,m⟩
theorem nE.Pa{t f o n:Nat}{ps:List (Nat×Nat)}{e:TI}(h:Mt.get C.tb t=some e)(c:e.pl=some ps)(i:ps[f]?=some (o,n+1)):jT P t f o:=by
 rw[C.get h]at c;have b:qZ P t=some ps:=c;unfold qZ at b;split at b
 ·rename_i k j;obtain⟨d,l,a⟩:=D9 b i;refine oz ?_;unfold vf;rw[j];simp only;rw[show k[f]?=some d by grind];simp only;cases g:gm P d.type with
  |none=>rw[g]at a;cases a
  |some m=>
   rw[g]at a;simp only[awC,av2,Prod.mk.injEq]at a;simp[a.1,a.2]
 ·cases b
theorem nE.zc{t:Nat}{z:D}{e:TI}(h:Mt.get C.tb t=some e)(a:e.zr=some z):zd P t ((bu z).map .d):=⟨z,gW (C.zr h a).zero,rfl⟩
def NH:BinOp->Bool
 | .eql=>true| .neq=>true| .lss=>true| .leq=>true| .gtr=>true| .geq=>true|_=>false
def CW(op:Op)(sl:List (Nat×V))(bx:List (Nat×List M))(H:Hp):Option (V×List Nat×Bool):=match op with
 | .move x=>match bw sl x with|some v=>some (v,[],false)|none=>none
 | .assign x=>match bw sl x with|some v=>some (v,[],false)|none=>none
 | .fieldAddr s x f=>match get C.tb s with
  |none=>none
  |some e=>match e.pl with
   |none=>none
   |some ps=>match ps[f]? with
    |some (o,_+1)=>(match bw sl x with
     |some (.m (.d (.bm cs off)))=>some (.m (.d (.bm cs (off+o))),[],false)
     |some (.loc t off)=>some (.loc t (off+o),[],false)
     |some (.m (.ref i off))=>some (.m (.ref i (off+o)),[],false)
     |some (.m (.eI i aL off))=>some (.m (.eI i aL (off+o)),[],false)
     |_=>none)
    |_=>none
 | .load t x=>match get C.tb t with
  |none=>none
  |some e=>match e.ag with
   |some false=>(match bw sl x with
    |some (.m (.d (.bm cs off)))=>(match cs[off]? with|some v=>some (.m (.d v),[],false)|none=>none)
    |some (.loc u off)=>(match get bx u with|some cs=>(match cs[off]? with|some m=>some (.m m,[u],false)|none=>none)|none=>none)
    |some (.m (.ref i off))=>(match H[i]? with|some (.box cs)=>(match cs[off]? with|some m=>some (.m m,[],true)|none=>none)|_=>none)
    |_=>none)
   |some true=>(match e.sz with
    |none=>none
    |some n=>match bw sl x with
     |some (.m (.d (.bm cs off)))=>(match off with
      |0=>bif Nat.beq cs.length n then some (.m (.d (.agg cs)),[],false)else(match sub cs 0 n with|some ds=>some (.m (.d (.agg ds)),[],false)|none=>none)
      |off+1=>match sub cs (off+1) n with|some ds=>some (.m (.d (.agg ds)),[],false)|none=>none)
     |some (.loc u off)=>(match get bx u with|some cs=>(match sub cs off n with|some PV=>(match kK PV with|some ds=>some (.m (.d (.agg ds)),[u],false)|none=>none)|none=>none)|none=>none)
     |some (.m (.ref i off))=>(match H[i]? with|some (.box cs)=>(match sub cs off n with|some PV=>(match kK PV with|some ds=>some (.m (.d (.agg ds)),[],true)|none=>none)|none=>none)|_=>none)
     |_=>none)
   |none=>none
 | .pick c x y=>match bw sl c with
  |some (.m (.d (.bool b)))=>(match bw sl (bif b then x else y)with|some v=>some (v,[],false)|none=>none)
  |_=>none
 | .nilCheck x=>match bw sl x with
  |some v=>(match vg v with|true=>some (v,[],false)|false=>none)
  |none=>none
 | .extract x i=>match bw sl x with
  |some (.m (.dq vs))=>(match vs[i]? with|some m=>some (.m m,[],false)|none=>none)
  |_=>none
 | .unOp .not xt x=>match bw sl x with
  |some (.m (.d (.bool b)))=>some (.m (.d (.bool (!b))),[],false)
  |_=>none
 | .binOp op xt x y yt=>match NH op with
  |false=>none
  |true=>(match bw sl x with
   |some (.m (.d (.int k m)))=>(match bw sl y with
    |some (.m (.d (.int k2 n)))=>(match decEq k k2 with
     | .isTrue _=>(match mM op k m n with|some r=>some (.m (.d r),[],false)|none=>none)
     | .isFalse _=>none)
    |_=>none)
   |some (.m (.d (.str s)))=>(match bw sl y with
    |some (.m (.d (.str u)))=>(match op with
     | .eql=>some (.m (.d (.bool (decide (s=u)))),[],false)
     | .neq=>some (.m (.d (.bool (!decide (s=u)))),[],false)
     |_=>none)
    |_=>none)
   |_=>none)
 | .box t x=>match bw sl x with
  |some (.m (.d v))=>some (.m (.d (.bm (bu v) 0)),[],false)
  |_=>none
 | .call ⟨.builtin .len,⟨[x]⟩,⟨[t]⟩⟩=>match get C.tb t with
  |none=>none
  |some e=>match e.se with
   |none=>none
   |some _=>match bw sl x with
    |some (.m (.d v))=>(match lB v with|some n=>some (.m (.d (.int .i64 n)),[],false)|none=>none)
    |_=>none
 | .build T ⟨parts⟩=>match get C.tb T with
  |none=>none
  |some e=>match e.pl,e.zr with
   |some ps,some (.agg z)=>(match iE sl parts,uU z with
    |some ms,some zs=>(match vk ps zs ms with
     |some cs=>(match kK cs with|some ds=>some (.m (.d (.agg ds)),[],false)|none=>none)
     |none=>none)
    |_,_=>none)
   |_,_=>none
 | .buildSlice T len ⟨parts⟩=>match get C.tb T with
  |none=>none
  |some e=>match e.se with
   |none=>none
   |some el=>match get C.tb el with
    |none=>none
    |some e2=>match e2.sz,e2.zr with
     |some n,some z=>bif Nat.blt 0 n&&Nat.beq (bu z).length n&&Nat.ble (len*n) 16777216 then(match iE sl parts with
      |some ms=>(match pI 0 ms with
       |some rows=>bif Nat.beq rows.length len&&mO n rows then some (.m (.d (.sl rows)),[],false)else none
       |none=>none)
      |none=>none)else none
     |_,_=>none
 | .makeFunc (.func f) ⟨[]⟩ ⟨Qh⟩=>match iz sl Qh with
  |some ds=>some (.m (.d (.fn f ds)),[],false)
  |none=>none
 | .convert s t x=>match get C.tb s,get C.tb t with
  |some a,some b=>(match a.ik,b.ik with
   |some _,some k2=>(match bw sl x with
    |some (.m (.d (.int _ n)))=>some (.m (.d (.int k2 (k2.wrap n))),[],false)
    |_=>none)
   |_,_=>none)
  |_,_=>none
 |_=>none
end
section
variable{X:bJ}{ops:Array Oper}{rest:List Oper}{sl:List (Nat×V)}{bx:List (Nat×List M)}{H:Hp}{d ty:Nat}{pos:String}{af:Array Edge}
theorem zO{b:List (Nat×V)} : ∀{ps:List (Nat×Operand)},(∀p∈ps,bw b p.2=bw sl p.2)->iE b ps=iE sl ps
 | [],_=>rfl
 |(c,d)::e,a=>by simp only[iE];rw[a (c,d) (by simp),zO (ps:=e) λp f=>a p (by simp[f])]
theorem D_{b:List (Nat×V)} : ∀{ps:List Operand},(∀p∈ps,bw b p=bw sl p)->iz b ps=iz sl ps
 | [],_=>rfl
 |c::d,a=>by simp only[iz];rw[a c (by simp),D_ (ps:=d) λp e=>a p (by simp[e])]
theorem BB(C:nE X.P){op:Op}{v:V}{rs:List Nat}{rh:Bool}(h:CW C op sl bx H=some (v,rs,rh)){q:List (Nat×V)}{t:List (Nat×List M)}{r:Hp}
  (c: ∀D∈op.operands.toList,bw q D=bw sl D) (G: ∀E∈rs,get t E=get bx E) (I:rh=true->r=H):cQ X ⟨some d,op,ty,pos,af,none⟩ ⟨q,t,r⟩ (dy v ⟨q,t,r⟩):=by
 unfold CW at h;split at h
 ·split at h
  ·rename_i a;cases h;exact DM ((c _ (by simp[Op.operands])).trans a)
  ·cases h
 ·split at h
  ·rename_i a;cases h;exact Fz ((c _ (by simp[Op.operands])).trans a)
  ·cases h
 ·split at h
  ·cases h
  ·rename_i ht;split at h
   ·cases h
   ·rename_i j;split at h
    ·rename_i O;have hF:=C.Pa ht j O;split at h
     ·rename_i a;cases h;exact FE ((c _ (by simp[Op.operands])).trans a)
     ·rename_i a;cases h;exact FF ((c _ (by simp[Op.operands])).trans a)
     ·rename_i a;cases h;exact yU ((c _ (by simp[Op.operands])).trans a)
     ·rename_i a;cases h;exact FG ((c _ (by simp[Op.operands])).trans a)
     ·cases h
    ·cases h
 ·split at h
  ·cases h
  ·rename_i e ht;split at h
   ·rename_i n;have P:=C.cell ht n;split at h
    ·rename_i a;split at h
     ·rename_i u;cases h;exact yS ((c _ (by simp[Op.operands])).trans a) u
     ·cases h
    ·rename_i a;split at h
     ·rename_i l;split at h
      ·rename_i k;cases h;exact vi ((c _ (by simp[Op.operands])).trans a) ((G _ (by simp)).trans l) k
      ·cases h
     ·cases h
    ·rename_i a;split at h
     ·rename_i l;split at h
      ·rename_i k;cases h;have:=I W;subst this;exact mE ((c _ (by simp[Op.operands])).trans a) l (by unfold ie;rw[P.cell];exact k)
      ·cases h
     ·cases h
    ·cases h
   ·rename_i n;split at h
    ·cases h
    ·rename_i m w;have J:=C.agg ht n w;split at h
     ·rename_i a;split at h
      ·cases i:Nat.beq (List.length _) m with
       |true=>rw[i]at h;cases h;exact FD ((c _ (by simp[Op.operands])).trans a) (auZ i)
       |false=>
        rw[i]at h;simp only[aws]at h;split at h
        ·rename_i f;cases h;exact yT ((c _ (by simp[Op.operands])).trans a) (avJ (sub_eq f).1) (sub_eq f).2
        ·cases h
      ·split at h
       ·rename_i f;cases h;exact yT ((c _ (by simp[Op.operands])).trans a) (avJ (sub_eq f).1) (sub_eq f).2
       ·cases h
     ·rename_i a;split at h
      ·rename_i l;split at h
       ·rename_i f;split at h
        ·rename_i o;cases h;exact vj ((c _ (by simp[Op.operands])).trans a) ((G _ (by simp)).trans l) (avJ (sub_eq f).1) (by rw[(sub_eq f).2];exact o)
        ·cases h
       ·cases h
      ·cases h
     ·rename_i a;split at h
      ·rename_i l;split at h
       ·rename_i f;split at h
        ·rename_i o;cases h;have:=I W;subst this;exact mE ((c _ (by simp[Op.operands])).trans a) l (by unfold ie;rw[J.agg,J.size];simp only[avJ (sub_eq f).1,avx];rw[(sub_eq f).2];unfold pack;rw[o])
        ·cases h
       ·cases h
      ·cases h
     ·cases h
   ·cases h
 ·split at h
  ·rename_i b n;split at h
   ·rename_i a;cases h;cases b with
    |true=>exact FB ((c _ (by simp[Op.operands])).trans n) ((c _ (by simp[Op.operands])).trans a)
    |false=>exact FC ((c _ (by simp[Op.operands])).trans n) ((c _ (by simp[Op.operands])).trans a)
   ·cases h
  ·cases h
 ·split at h
  ·rename_i a;split at h
   ·rename_i u;cases h;exact v5 ((c _ (by simp[Op.operands])).trans a) u
   ·cases h
  ·cases h
 ·split at h
  ·rename_i a;split at h
   ·rename_i k;cases h;exact DN ((c _ (by simp[Op.operands])).trans a) k
   ·cases h
  ·cases h
 ·split at h
  ·rename_i a;cases h;exact LM ((c _ (by simp[Op.operands])).trans a)
  ·cases h
 ·split at h
  ·cases h
  ·split at h
   ·rename_i a;split at h
    ·rename_i s;split at h
     ·rename_i Q _;subst Q;split at h
      ·rename_i f;cases h;exact vZ ((c _ (by simp[Op.operands])).trans a) ((c _ (by simp[Op.operands])).trans s) f
      ·cases h
     ·cases h
    ·cases h
   ·rename_i a;split at h
    ·rename_i s;split at h
     ·cases h;exact Ih ((c _ (by simp[Op.operands])).trans a) ((c _ (by simp[Op.operands])).trans s)
     ·cases h;exact Ii ((c _ (by simp[Op.operands])).trans a) ((c _ (by simp[Op.operands])).trans s)
     ·cases h
    ·cases h
   ·cases h
 ·split at h
  ·rename_i a;cases h;exact LP ((c _ (by simp[Op.operands])).trans a)
  ·cases h
 ·split at h
  ·cases h
  ·rename_i ht;split at h
   ·cases h
   ·rename_i x;have y:=C.slice ht x;split at h
    ·rename_i a;split at h
     ·rename_i R;cases h;exact yW ((c _ (by simp[Op.operands,Call.operands])).trans a) R
     ·cases h
    ·cases h
 ·split at h
  ·cases h
  ·rename_i ht;split at h
   ·rename_i j z;have y:=C.str ht j z;split at h
    ·rename_i k ac;split at h
     ·rename_i S T;split at h
      ·rename_i U o;cases h;have A:=xa (ht:=y) (X:=X) (dst:=some d) (ty:=ty) (pos:=pos) (af:=af) (g:=none) (st:=⟨q,t,r⟩) (by rw[je,zO (sl:=sl) λF j=>c _ (by simp[Op.operands];exact⟨_,j⟩)];exact k) (by rw[<-q9 ac];exact uC T);have:pack S= .d (.agg U):=by simp[pack,o]
       rw[this]at A;exact A
      ·cases h
     ·cases h
    ·cases h
   ·cases h
 ·split at h
  ·cases h
  ·rename_i ht;split at h
   ·cases h
   ·rename_i x;have y:=C.slice ht x;split at h
    ·cases h
    ·rename_i K;split at h
     ·rename_i m N w z;have hN:=C.sz K w;have hZ:=C.zr K z;cases i:(Nat.blt 0 m&&Nat.beq (bu N).length m&&Nat.ble (_*m) 16777216)with
      |false=>rw[i]at h;cases h
      |true=>
       rw[i]at h;simp only[avx]at h;simp only[avf]at i;split at h
       ·rename_i k;split at h
        ·rename_i L f;cases p:(Nat.beq L.length _&&mO m L)with
         |false=>rw[p]at h;cases h
         |true=>
          rw[p]at h;simp only[avf]at p;cases h;exact wa i.1.1 i.1.2 i.2 (by rw[je,zO (sl:=sl) λF j=>c _ (by simp[Op.operands];exact⟨_,j⟩)];exact k) f p.1 p.2
        ·cases h
       ·cases h
     ·cases h
 ·split at h
  ·rename_i B;cases h;exact CE (by rw[tv,D_ (sl:=sl) λF j=>c _ (by simp[Op.operands];exact j)];exact B)
  ·cases h
 ·split at h
  ·rename_i B Y;split at h
   ·rename_i Z P7;have A:=C.int B Z;have h2:=C.int Y P7;split at h
    ·rename_i a;cases h;exact xc ((c _ (by simp[Op.operands])).trans a)
    ·cases h
   ·cases h
  ·cases h
 ·cases h
end
def gate(ops:Array Oper)(sl:List (Nat×V)):Option (Nat×Bool)->Option Bool
 |none=>some true
 |some (j,w)=>match ops[j]? with
  |some q=>(match q.dst with
   |some g=>(match get sl g with
    |some (.m (.d (.bool b)))=>some (b==w)
    |some (.m (.dq []))=>some false
    |_=>none)
   |none=>none)
  |none=>none
inductive So where
 |go (sl:List (Nat×V)) (bx:List (Nat×List M)) (e:Ef)
 |no
def vw{P:Program}(C:nE P)(N:Nat)(ops:Array Oper)(o:Oper)(sl:List (Nat×V))(bx:List (Nat×List M))(H:Hp):So:=match gate ops sl o.guard with
 |some false=>(match o.dst with
  |some d=>bif Nat.blt d N then .go ((d,.m (.dq []))::sl) bx ⟨some d,.m (.dq []),[],[],none,false,none⟩else .no
  |none=> .no)
 |some true=>(match o.dst with
  |some d=>bif Nat.blt d N then(match o.op with
   | .alloc T=>(match get C.tb T with
    |some e=>(match e.zr with
     |some z=>(match uU (bu z)with
      |some cs=>bif iH d sl then .go ((d,.loc d 0)::sl) ((d,cs)::bx) ⟨some d,.loc d 0,[],[(d,cs)],some d,false,none⟩else .no
      |none=> .no)
     |none=> .no)
    |none=> .no)
   |op=>match CW C op sl bx H with
    |some (v,rs,rh)=> .go ((d,v)::sl) bx ⟨some d,v,rs,[],none,rh,none⟩
    |none=> .no)else .no
  |none=>(match o.op with
   | .store T x y=>(match bw sl x with
    |some (.loc t off)=>(match bw sl y with
     |some (.m m)=>(match get bx t with
      |some cs=>(match iW m with
       |some new=>(match get C.tb T with
        |some e=>(match e.sz with
         |some n=>bif Nat.beq new.length n then(match wr cs off new with
          |some Qb=> .go sl ((t,Qb)::bx) ⟨none,.m .undef,[],[(t,Qb)],none,false,none⟩
          |none=> .no)else .no
         |none=> .no)
        |none=> .no)
       |none=> .no)
      |none=> .no)
     |_=> .no)
    |_=> .no)
   |_=> .no))
 |none=> .no
section
variable{X:bJ}{ops:Array Oper}{o:Oper}{rest:List Oper}{sl P9:List (Nat×V)}{bx Qr:List (Nat×List M)}{H:Hp}{e:Ef}
theorem x9(C:nE X.P)(h:vw C X.n ops o sl bx H= .go P9 Qr e):(gate ops sl o.guard=some false/\ ∃d,o.dst=some d/\Nat.blt d X.n=true/\P9=(d,.m (.dq []))::sl/\Qr=bx/\e=⟨some d,.m (.dq []),[],[],none,false,none⟩)\/
  (gate ops sl o.guard=some true/\((∃d,o.dst=some d/\Nat.blt d X.n=true/\((∃T cs,o.op= .alloc T/\zd X.P T cs/\iH d sl=true/\P9=(d,.loc d 0)::sl/\Qr=(d,cs)::bx/\e=⟨some d,.loc d 0,[],[(d,cs)],some d,false,none⟩)\/
   (∃v rs rh,CW C o.op sl bx H=some (v,rs,rh)/\P9=(d,v)::sl/\Qr=bx/\e=⟨some d,v,rs,[],none,rh,none⟩)))\/
   (o.dst=none/\ ∃T x y t off m cs b n c,o.op= .store T x y/\bY X.P T n/\bw sl x=some (.loc t off)/\bw sl y=some (.m m)/\get bx t=some cs/\iW m=some b/\Nat.beq b.length n=true/\wr cs off b=some c/\
    P9=sl/\Qr=(t,c)::bx/\e=⟨none,.m .undef,[],[(t,c)],none,false,none⟩))):=by
 unfold vw at h;split at h
 ·rename_i g;split at h
  ·rename_i d f;cases a:Nat.blt d X.n with
   |false=>rw[a]at h;cases h
   |true=>rw[a]at h;cases h;exact .inl ⟨g,d,f,a,W,W,W⟩
  ·cases h
 ·rename_i g;refine .inr ⟨g,?_⟩;split at h
  ·rename_i d f;cases a:Nat.blt d X.n with
   |false=>rw[a]at h;cases h
   |true=>
    rw[a]at h;simp only[avx]at h;refine .inl ⟨d,f,a,?_⟩;split at h
    ·rename_i T i;split at h
     ·rename_i j;split at h
      ·rename_i A q;split at h
       ·rename_i cs k;cases p:iH d sl with
        |false=>rw[p]at h;cases h
        |true=>rw[p]at h;cases h;exact .inl ⟨T,cs,i,by rw[q9 k];exact C.zc j q,W,W,W,W⟩
       ·cases h
      ·cases h
     ·cases h
    ·split at h
     ·rename_i v rs rh r;cases h;exact .inr ⟨v,rs,rh,r,W,W,W⟩
     ·cases h
  ·rename_i f;split at h
   ·rename_i T x y i;split at h
    ·rename_i t off s;split at h
     ·rename_i m u;split at h
      ·rename_i cs w;split at h
       ·rename_i b k;split at h
        ·rename_i j;split at h
         ·rename_i n a;cases l:Nat.beq b.length n with
          |false=>rw[l]at h;cases h
          |true=>
           rw[l]at h;simp only[avx]at h;split at h
           ·rename_i c z;cases h;exact .inr ⟨f,T,x,y,t,off,m,cs,b,n,c,i,C.sz j a,s,u,w,k,l,z,W,W,W⟩
           ·cases h
         ·cases h
        ·cases h
       ·cases h
      ·cases h
     ·cases h
    ·cases h
   ·cases h
 ·cases h
theorem qo{b:Bool}(h:gate ops sl o.guard=some b):kp ops o ⟨sl,bx,H⟩=some b:=by
 unfold gate at h;unfold kp;split at h
 ·grind
 ·grind
theorem D'(C:nE X.P){post:St->Prop}(h:vw C X.n ops o sl bx H= .go P9 Qr e)(k:TL X ops rest ⟨P9,Qr,H⟩ post):TL X ops (o::rest) ⟨sl,bx,H⟩ post:=by
 rcases x9 C h with⟨c,d,a,f,rfl,rfl,_⟩|⟨c,⟨d,a,f,⟨z,A,g,I,n,rfl,rfl,_⟩|⟨v,J,K,B,rfl,rfl,_⟩⟩|⟨a,z,D,E,F,N,m,A,O,G,L,g,M,p,q,r,s,t,u,rfl,rfl,_⟩⟩
 ·exact TL.skip (qo c) a f k
 ·obtain⟨y,i,j,l,af,b⟩:=o;subst a;subst g;cases b with
  |none=>exact DQ f n k
  |some w=>exact av (qo c) (DQ f n k)
 ·obtain⟨y,i,j,l,af,b⟩:=o;subst a;have x:=TL.mL (X:=X) (ops:=ops) (rest:=rest) (post:=post) (o:=⟨some d,i,j,l,af,none⟩) W W f (BB C B (λ_ _=>rfl) (λ_ _=>rfl) λ_=>rfl) k;cases b with
  |none=>exact x
  |some w=>exact av (qo c) x
 ·obtain⟨y,i,j,l,af,b⟩:=o;subst a;subst g;cases b with
  |none=>exact fD p q r s t u k
  |some w=>exact av (qo c) (fD p q r s t u k)
theorem CX{post:List Ef->St->Prop}{dst:Option Nat}{op:Op}{ty:Nat}{pos:String}{af:Array Edge}{g:Option (Nat×Bool)}(a:gate ops sl g=some true)
  (k:TF X ops (⟨dst,op,ty,pos,af,none⟩::rest) ⟨sl,bx,H⟩ post):TF X ops (⟨dst,op,ty,pos,af,g⟩::rest) ⟨sl,bx,H⟩ post:=by
 cases g with
 |none=>exact k
 |some d=>
  obtain⟨f,c⟩:=d;simp only[gate]at a;split at a
  ·rename_i h i;split at a
   ·rename_i g j;split at a
    ·rename_i b e;injection a with a
     have:b=c:=by grind
     subst this;exact aR (by grind) e k
    ·cases a
    ·cases a
   ·cases a
  ·cases a
theorem Ea(C:nE X.P){post:List Ef->St->Prop}(h:vw C X.n ops o sl bx H= .go P9 Qr e)(k:TF X ops rest ⟨P9,Qr,H⟩ λy z=>post (e::y) z):TF X ops (o::rest) ⟨sl,bx,H⟩ post:=by
 rcases x9 C h with⟨a,d,c,g,rfl,rfl,rfl⟩|⟨a,⟨d,c,g,⟨u,A,j,S,T,rfl,rfl,rfl⟩|⟨v,B,D,E,rfl,rfl,rfl⟩⟩|⟨c,u,w,M,N,Z,m,A,ac,O,U,j,V,l,F,i,G,t,I,rfl,rfl,rfl⟩⟩
 ·obtain⟨r,n,p,s,af,f⟩:=o;subst c;cases f with
  |none=>cases a
  |some J=>
   obtain⟨P,Q⟩:=J;simp only[gate]at a;split at a
   ·rename_i R t;split at a
    ·rename_i f c;split at a
     ·rename_i b i;injection a with a;exact aX g (by grind) i a k
     ·rename_i i;exact aY g (by grind) i k
     ·cases a
    ·cases a
   ·cases a
 ·obtain⟨r,n,p,s,af,f⟩:=o;subst c;subst j;exact CX a (JQ g k)
 ·obtain⟨r,n,p,s,af,f⟩:=o;subst c;exact CX a (TF.cons (e:=⟨some d,v,B,[],none,D,none⟩) (P1 W W (bO g) λY q=>BB C E (λw l=>q.ev l) (λx K=>q.bx x (by simp[K])) λL=>q.H (by simp[L])) W k)
 ·obtain⟨r,n,p,s,af,f⟩:=o;subst c;subst j;exact CX a (jc l F i G t I k)
end
inductive K where
 |c (x:Code)
 |b (id:Nat)
abbrev xh:=Code->St->(Exit->St->Prop)->Prop
abbrev Hy:=Array Oper->List Oper->St->(St->Prop)->Prop
def Kp(C:xh):List K->(Exit->St->Prop)->Exit->St->Prop
 | [],post=>post
 | .c y::ks,post=>after (Kp C ks post) λs=>C y s (Kp C ks post)
 | .b id::ks,post=>tm id (Kp C ks post)
def Kn(C:xh)(ks:List K)(post:Exit->St->Prop):St->Prop:= λs=>Kp C ks post .normal s
inductive Cf where
 |code (x:Code) (ks:List K)
 |ops (os:Array Oper) (r:List Oper) (ks:List K)
 |IF (ks:List K)
def Cf.den(C:xh)(L:Hy)(post:Exit->St->Prop):Cf->St->Prop
 | .code x ks,s=>C x s (Kp C ks post)
 | .ops os r ks,s=>L os r s (Kn C ks post)
 | .IF ks,s=>Kp C ks post .normal s
inductive Sp where
 |go (c:Cf) (ps:List Nat) (sl:List (Nat×V)) (bx:List (Nat×List M))
 |no
def stops(ps:List Nat)(o:Oper):Bool:=match ps with
 |p::_=>(match o.dst with|some d=>Nat.beq p (d+4)|none=>Nat.beq p 999)
 | []=>false
def zP{P:Program}(D:nE P)(N:Nat)(H:Hp)(ps:List Nat)(sl:List (Nat×V))(bx:List (Nat×List M)):Cf->Sp
 | .code x ks=>(match x with
  | .seq a b=> .go (.code a (.c b::ks)) ps sl bx
  | .skip=> .go (.IF ks) ps sl bx
  | .block id y=>(match ps with
   |3::ps=> .go (.code y (.b id::ks)) ps sl bx
   |_=> .no)
  | .cond c y z=>(match ps with
   |1::ps=>(match bw sl c with
    |some (.m (.d (.bool true)))=> .go (.code y ks) ps sl bx
    |_=> .no)
   |0::ps=>(match bw sl c with
    |some (.m (.d (.bool false)))=> .go (.code z ks) ps sl bx
    |_=> .no)
   |_=> .no)
  | .region _ ⟨os⟩ false=>(match ps with
   |2::ps=> .go (.ops ⟨os⟩ os ks) ps sl bx
   |_=> .no)
  |_=> .no)
 | .ops os r ks=>(match r with
  | []=> .go (.IF ks) ps sl bx
  |o::r=>bif stops ps o then .no else(match vw D N os o sl bx H with
   | .go sl bx _=> .go (.ops os r ks) ps sl bx
   | .no=> .no))
 | .IF ks=>(match ks with
  | .c y::ks=> .go (.code y ks) ps sl bx
  | .b _::ks=> .go (.IF ks) ps sl bx
  | []=> .no)
inductive Rs where
 |at(c:Cf) (sl:List (Nat×V)) (bx:List (Nat×List M))
 |out
def tD{P:Program}(D:nE P)(N:Nat)(H:Hp):Nat->Cf->List Nat->List (Nat×V)->List (Nat×List M)->Rs
 |0,_,_,_,_=> .out
 |f+1,c,ps,sl,bx=>match zP D N H ps sl bx c with
  | .go c ps sl bx=>tD D N H f c ps sl bx
  | .no=> .at c sl bx
structure Mode(P:Program)(N:Nat)(C:xh)(L:Hy):Prop where
 seq: ∀x y st post,C x st (after post λs=>C y s post)->C (.seq x y) st post
 skip: ∀st post,post .normal st->C .skip st post
 block: ∀id x st post,C x st (tm id post)->C (.block id x) st post
 ct: ∀c x y st post,st.ev c=some (.m (.d (.bool true)))->C x st post->C (.cond c x y) st post
 cf: ∀c x y st post,st.ev c=some (.m (.d (.bool false)))->C y st post->C (.cond c x y) st post
 region: ∀id (os:List Oper) st post,L os.toArray os st (post .normal)->C (.region id os.toArray false) st post
 nil: ∀os st (post:St->Prop),post st->L os [] st post
 row: ∀(D:nE P) os o r sl bx P9 Qr e H (post:St->Prop),vw D N os o sl bx H= .go P9 Qr e->L os r ⟨P9,Qr,H⟩ post->L os (o::r) ⟨sl,bx,H⟩ post
theorem IG{P:Program}{N:Nat}{C:xh}{L:Hy}(W:Mode P N C L)(b:nE P){ps i:List Nat}{sl P9:List (Nat×V)}{bx Qr:List (Nat×List M)}{H:Hp}{c d:Cf}{post:Exit->St->Prop}
  (h:zP b N H ps sl bx c= .go d i P9 Qr) (k:d.den C L post ⟨P9,Qr,H⟩):c.den C L post ⟨sl,bx,H⟩:=by
 cases c with
 |code j e=>
  simp only[zP]at h;split at h
  ·cases h;exact W.seq _ _ _ _ k
  ·cases h;exact W.skip _ _ k
  ·split at h
   ·cases h;exact W.block _ _ _ _ k
   ·cases h
  ·split at h
   ·split at h
    ·rename_i a;cases h;exact W.ct _ _ _ _ _ a k
    ·cases h
   ·split at h
    ·rename_i a;cases h;exact W.cf _ _ _ _ _ a k
    ·cases h
   ·cases h
  ·split at h
   ·cases h;exact W.region _ _ _ _ k
   ·cases h
  ·cases h
 |ops m l e=>
  simp only[zP]at h;split at h
  ·cases h;exact W.nil _ _ _ k
  ·cases f:stops ps _ with
   |true=>rw[f]at h;cases h
   |false=>
    rw[f]at h;simp only[aws]at h;split at h
    ·rename_i g;cases h;exact W.row b _ _ _ _ _ _ _ _ _ _ g k
    ·cases h
 |IF e=>
  simp only[zP]at h;split at h
  ·cases h;exact k
  ·cases h;exact k
  ·cases h
theorem mT{P:Program}{N:Nat}{C:xh}{L:Hy}(W:Mode P N C L)(b:nE P){H:Hp}{post:Exit->St->Prop} : ∀(f:Nat) {ps:List Nat} {sl P9:List (Nat×V)} {bx Qr:List (Nat×List M)} {c d:Cf},
  tD b N H f c ps sl bx= .at d P9 Qr->d.den C L post ⟨P9,Qr,H⟩->c.den C L post ⟨sl,bx,H⟩
 |0,_,_,_,_,_,_,_,a,_=>by cases a
 |f+1,ps,sl,P9,bx,Qr,c,d,a,e=>by
  simp only[tD]at a;split at a
  ·rename_i g;exact IG W b g (mT W b f a e)
  ·grind
theorem CY(X:bJ):Mode X.P X.n (TC X) (TL X)where
 seq _ _ _ _ h:=TC.seq h
 skip _ _ h:=TC.skip h
 block _ _ _ _ h:=TC.block h
 ct _ _ _ _ _ hc h:=TC.cond hc (λ_=>h) λh=>by cases h
 cf _ _ _ _ _ hc h:=TC.cond hc (λh=>by cases h) λ_=>h
 region _ _ _ _ h:=TC.region h
 nil _ _ _ h:=TL.nil h
 row D _ _ _ _ _ _ _ _ _ _ h k:=D' D h k
def DL(P:Program)(n:Nat)(os:Array Oper)(r:List Oper)(st:St)(Q:St->Prop):Prop:= ∃s,(∀s0 Oo,TL ⟨P,n,s0,Oo,[]⟩ os r st λs'=>s'=s)/\Q s
theorem CZ(P:Program)(n B:Nat):Mode P n (DC P n B) (DL P n)where
 seq _ _ _ _ h:=DC.seq h
 skip _ _ h:=DC.skip h
 block _ _ _ _ h:=DC.block h
 ct _ _ _ _ _ hc h:=DC.cond hc (λ_=>h) λh=>by cases h
 cf _ _ _ _ _ hc h:=DC.cond hc (λh=>by cases h) λ_=>h
 region _ _ _ _ h:=DC.region h
 nil _ st _ h:=⟨st,λ_ _=>TL.nil W,h⟩
 row D _ _ _ _ _ _ _ _ _ _ h k:=by
  obtain⟨s,h1,h2⟩:=k;exact⟨s,λs0 Oo=>D' (X:=⟨P,n,s0,Oo,[]⟩) D h (h1 s0 Oo),h2⟩
theorem Po{P:Program}{n:Nat}{a:Array Oper}{r r':List Oper}{st c:St}{Q:St->Prop}(h: ∀{s0 Oo} {b:St->Prop},TL ⟨P,n,s0,Oo,[]⟩ a r' c b->TL ⟨P,n,s0,Oo,[]⟩ a r st b)(k:DL P n a r' c Q):DL P n a r st Q:=by
 obtain⟨d,e,f⟩:=k;exact⟨d,λs0 Oo=>h (e s0 Oo),f⟩
def qK{P:Program}(C:nE P)(N:Nat)(ops:Array Oper)(H:Hp):Nat->List Oper->List (Nat×V)->List (Nat×List M)->List Ef->Option (List Oper×List (Nat×V)×List (Nat×List M)×List Ef)
 |0,r,sl,bx,es=>some (r,sl,bx,es)
 |n+1,o::r,sl,bx,es=>(match vw C N ops o sl bx H with
  | .go sl bx e=>qK C N ops H n r sl bx (e::es)
  | .no=>none)
 |_+1,[],_,_,_=>none
theorem TF.run{X:bJ}(C:nE X.P){ops:Array Oper}{H:Hp} : ∀(n:Nat) {post:List Ef->St->Prop} {r r':List Oper} {sl P9:List (Nat×V)} {bx Qr:List (Nat×List M)} {es b:List Ef},
  qK C X.n ops H n r sl bx es=some (r',P9,Qr,b)->TF X ops r' ⟨P9,Qr,H⟩ (λd f=>post (b.reverse++d) f)->TF X ops r ⟨sl,bx,H⟩ λd f=>post (es.reverse++d) f
 |0,post,r,r',sl,P9,bx,Qr,es,b,a,c=>by cases a;exact c
 |n+1,post,[],r',sl,P9,bx,Qr,es,b,a,c=>by cases a
 |n+1,post,h::r,r',sl,P9,bx,Qr,es,b,a,c=>by
  simp only[qK]at a;split at a
  ·rename_i e g;refine Ea C g ?_;have:=TF.run C n (post:=post) a c;simpa using this
  ·cases a
theorem TF.rn{X:bJ}(C:nE X.P){ops:Array Oper}{H:Hp}(n:Nat){post:List Ef->St->Prop}{r r':List Oper}{sl P9:List (Nat×V)}{bx Qr:List (Nat×List M)}{a:List Ef}
  (h:qK C X.n ops H n r sl bx []=some (r',P9,Qr,a)) (k:TF X ops r' ⟨P9,Qr,H⟩ λb c=>post (a.reverse++b) c):TF X ops r ⟨sl,bx,H⟩ post:=TF.run C n (post:=post) h k
theorem jJ.run{X:bJ}{g:Hp->Prop}(C:nE X.P){ops:Array Oper}{H:Hp} : ∀(n:Nat) {post:List Ef->St->Prop} {r r':List Oper} {sl P9:List (Nat×V)} {bx Qr:List (Nat×List M)} {es b:List Ef},
  qK C X.n ops H n r sl bx es=some (r',P9,Qr,b)->jJ X g ops r' ⟨P9,Qr,H⟩ (λd f=>post (b.reverse++d) f)->jJ X g ops r ⟨sl,bx,H⟩ λd f=>post (es.reverse++d) f
 |0,post,r,r',sl,P9,bx,Qr,es,b,a,c=>by cases a;exact c
 |n+1,post,[],r',sl,P9,bx,Qr,es,b,a,c=>by cases a
 |n+1,post,i::r,r',sl,P9,bx,Qr,es,b,a,c=>by
  simp only[qK]at a;split at a
  ·rename_i e h;refine Py (Ea C h (TF.nil ⟨W,W⟩)) ?_;have:=jJ.run C n (post:=post) a c;simpa using this
  ·cases a
section
variable{P:Program}{f:Nat}{fn:Func}{c:Code}{ms:List M}{H:Hp}{post:M->Hp->Prop}{n:Nat}
theorem CT.ob(hf:P.funcs[f]?=some fn)(d:fn.body=some c)(e:fn.ntmps=n)(g:Nat.ble ms.length n=true)
  (h: ∀(a:Sg) (b:Nat->Nat->Prop),TC ⟨P,n,a,b,[]⟩ c ⟨rM 0 ms,[],H⟩ (Kp (TC ⟨P,n,a,b,[]⟩) [] (ts P fn post))):CT P f ms H post:=CT.v8 hf d e g h
theorem DT.ob(hf:P.funcs[f]?=some fn)(a:fn.body=some c)(b:fn.ntmps=n)(d:Nat.ble ms.length n=true)
  (h:DC P n H.length c ⟨rM 0 ms,[],H⟩ (Kp (DC P n H.length) [] (ts P fn post))):DT P f ms H post:=DT.v8 hf a b d h
end
section
variable{X:bJ}{st:St}{c x y:Code}{sl:List (Nat×V)}{bx:List (Nat×List M)}{H:Hp}{post:Exit->St->Prop}{P:Program}{n B:Nat}
theorem TC.lp(a:Nat->St->Prop)(g:Nat)(P9:List (Nat×V))(j:a g ⟨P9,bx,H⟩)(k:keeps sl P9)
  (n: ∀e f,a e f->TC X c f (Kp (TC X) [] (after post λl=> ∃h i,h<e/\a h i/\ ∀b d,Inv X l b d->Inv X i b d))):TC X (.loop c) ⟨sl,bx,H⟩ post:=
 TC.JN a g _ j (λb d m=>m.o5 (iI k) λ_=>rfl) n
theorem DC.lp(a:Nat->St->Prop)(e:Nat)(P9:List (Nat×V))(f:a e ⟨P9,bx,H⟩)(g:keeps sl P9)
  (i: ∀b d,a b d->DC P n B c d (Kp (DC P n B) [] (after post λh=>zG P n B a b h))):DC P n B (.loop c) ⟨sl,bx,H⟩ post:=DC.loop a e P9 f g i
theorem TC.OE{z:Code}(a:St)(f:TC X x st (Kp (TC X) [.c y] (after post λs=> ∀b c,Inv X s b c->Inv X a b c)))(g:TC X z a post):
  TC X x st (after (after post λs=>TC X z s post) λs=>TC X y s (after post λs=>TC X z s post)):=
 TC.mono f λe s d=>by
  cases e with
  |normal=>exact TC.NC a d g
  |_=>exact d
theorem DC.md(a:St)(f:DC P n B x st (Kp (DC P n B) [] (after post λs=> ∀b e,b.H.length<=B-> ∀c d,Inv ⟨P,n,b,e,[]⟩ s c d->Inv ⟨P,n,b,e,[]⟩ a c d)))(g:DC P n B y a post):DC P n B x st (after post λs=>DC P n B y s post):=DC.NC a f g
theorem Qy(Q:St->Prop)(h:DC P n B x st (Kp (DC P n B) [] (after post λs=> ∃a,Q a/\ ∀b g,b.H.length<=B-> ∀c d,Inv ⟨P,n,b,g,[]⟩ s c d->Inv ⟨P,n,b,g,[]⟩ a c d)))(i: ∀a,Q a->DC P n B y a post):DC P n B x st (after post λs=>DC P n B y s post):=
 DC.mono h λe s f=>by
  cases e with
  |normal=>obtain⟨a,j,k⟩:=f;exact Ry _ k (i a j)
  |_=>exact f
theorem DC.Hz{z:Code}(Q:St->Prop)(h:DC P n B x st (Kp (DC P n B) [.c y] (after post λs=> ∃a,Q a/\ ∀b g,b.H.length<=B-> ∀c d,Inv ⟨P,n,b,g,[]⟩ s c d->Inv ⟨P,n,b,g,[]⟩ a c d)))(i: ∀a,Q a->DC P n B z a post):
  DC P n B x st (after (after post λs=>DC P n B z s post) λs=>DC P n B y s (after post λs=>DC P n B z s post)):=
 DC.mono h λe s f=>by
  cases e with
  |normal=>exact Qy Q f i
  |_=>exact f
end
section
variable{X:bJ}{ops:Array Oper}{rest:List Oper}{sl:List (Nat×V)}{bx:List (Nat×List M)}{H:Hp}{post:St->Prop}{d ty:Nat}{pos:String}{af:Array Edge}
theorem aQ{op:BinOp}{c e:Nat}{x y:Operand}{a:IntKind}{m n:Int}{b' b:Bool}(f:b'=b)(g:Nat.blt d X.n=true)(h:bw sl x=some (.m (.d (.int a m))))(i:bw sl y=some (.m (.d (.int a n))))(j:mM op a m n=some (.bool b'))
  (k:TL X ops rest ⟨(d,.m (.d (.bool b)))::sl,bx,H⟩ post):TL X ops (⟨some d,.binOp op c x y e,ty,pos,af,none⟩::rest) ⟨sl,bx,H⟩ post:=dY g h i (f▸j) k
end
abbrev nN(k e:Nat):Nat×V:=(k,.m (.d (.int .i64 (e:Int))))
abbrev nI(k:Nat)(e:Int):Nat×V:=(k,.m (.d (.int .i64 e)))
abbrev nR(k a:Nat):Nat×V:=(k,.m (.ref a 0))
abbrev nD(k:Nat)(d:D):Nat×V:=(k,.m (.d d))
abbrev nM(k:Nat)(m:M):Nat×V:=(k,.m m)
abbrev dN(e:Nat):M:= .d (.int .i64 (e:Int))
abbrev iN(e:Nat):D:= .int .i64 (e:Int)
end Go.Mt
namespace Go.Proofs
open Go.Mt
open Tryz
def OF:List (Nat×TI):=[
 (3,⟨some 1,some false,some (.int .i64 0),none,some .i64,none⟩),
 (62,⟨some 8,some true,some (.agg [.int .u8 0,.int .u8 0,.int .i32 0,.str ⟨#[]⟩,.sl [],.sl [],.int .i64 0,.int .i64 0]),none,none,some [(0,1),(1,1),(2,1),(3,1),(4,1),(5,1),(6,2)]⟩),
 (5,⟨some 1,some false,some (.int .u8 0),none,some .u8,none⟩),
 (9,⟨some 1,some false,some (.str ⟨#[]⟩),none,none,none⟩),
 (68,⟨some 16,some true,some (.agg [.int .u8 0,.sl [],.str ⟨#[]⟩,.sl [],.bool false,.int .u8 0,.int .u8 0,.int .i32 0,.str ⟨#[]⟩,.sl [],.sl [],.int .i64 0,.int .i64 0,.sl [],.int .i64 0,.int .i64 0]),none,none,some [(0,1),(1,1),(2,1),(3,1),(4,1),(5,8),(13,1),(14,2)]⟩),
 (46,⟨some 1,some false,some (.sl []),some 64,none,none⟩),
 (64,⟨some 15,some true,some (.agg [.str ⟨#[]⟩,.int .u8 0,.str ⟨#[]⟩,.sl [],.bool false,.int .u8 0,.int .u8 0,.int .i32 0,.str ⟨#[]⟩,.sl [],.sl [],.int .i64 0,.int .i64 0,.int .i64 0,.int .i64 0]),none,none,some [(0,1),(1,2),(3,1),(4,1),(5,8),(13,2)]⟩),
 (21,⟨some 1,some false,some (.int .i32 0),none,some .i32,none⟩),
 (28,⟨some 2,some true,some (.agg [.sl [],.sl []]),none,none,some [(0,1),(1,1)]⟩),
 (102,⟨some 3,some true,some (.agg [.sl [],.sl [],.sl []]),none,none,some [(0,1),(1,1),(2,1)]⟩),
 (57,⟨some 2,some true,some (.agg [.int .u8 0,.str ⟨#[]⟩]),none,none,some [(0,1),(1,1)]⟩),
 (23,⟨some 1,some false,some (.sl []),some 21,none,none⟩),
 (59,⟨some 1,some false,some (.sl []),some 9,none,none⟩),
 (49,⟨some 2,some true,some (.agg [.sl [],.sl []]),none,none,some [(0,1),(1,1)]⟩),
 (53,⟨some 7,some true,some (.agg [.str ⟨#[]⟩,.sl [],.sl [],.sl [],.sl [],.int .i64 0,.int .i64 0]),none,none,some [(0,1),(1,1),(2,1),(3,2),(5,2)]⟩),
 (136,⟨some 8,some true,some (.agg [.bX,.str ⟨#[]⟩,.sl [],.sl [],.sl [],.sl [],.sl [],.sl []]),none,none,some [(0,1),(1,1),(2,1),(3,1),(4,1),(5,1),(6,1),(7,1)]⟩),
 (112,⟨some 5,some true,some (.agg [.bX,.bX,.bool false,.sl [],.sl []]),none,none,some [(0,1),(1,1),(2,1),(3,1),(4,1)]⟩),
 (66,⟨some 1,some false,some (.sl []),some 176,none,none⟩),
 (60,⟨some 1,some false,some (.sl []),some 62,none,none⟩),
 (93,⟨some 13,some true,some (.agg [.sl [],.sl [],.str ⟨#[]⟩,.sl [],.sl [],.sl [],.sl [],.int .i64 0,.int .i64 0,.sl [],.sl [],.sl [],.int .i64 0]),none,none,some [(0,2),(2,7),(9,1),(10,1),(11,1),(12,1)]⟩),
 (157,⟨some 17,some true,some (.agg [.int .u8 0,.sl [],.str ⟨#[]⟩,.sl [],.bool false,.int .u8 0,.int .u8 0,.int .i32 0,.str ⟨#[]⟩,.sl [],.sl [],.int .i64 0,.int .i64 0,.sl [],.int .i64 0,.int .i64 0,.int .i64 0]),none,none,some [(0,16),(16,1)]⟩),
 (4,⟨some 1,some false,some (.bool false),none,none,none⟩),
 (84,⟨some 1,some false,some (.bX),none,none,none⟩),
 (176,⟨some 7,some true,some (.agg [.str ⟨#[]⟩,.sl [],.sl [],.sl [],.sl [],.int .i64 0,.int .i64 0]),none,none,some [(0,1),(1,2),(3,1),(4,1),(5,2)]⟩),
 (47,⟨some 1,some false,some (.sl []),some 68,none,none⟩),
 (123,⟨some 20,some true,some (.agg [.str ⟨#[]⟩,.int .u8 0,.str ⟨#[]⟩,.sl [],.bool false,.int .u8 0,.int .u8 0,.int .i32 0,.str ⟨#[]⟩,.sl [],.sl [],.int .i64 0,.int .i64 0,.int .i64 0,.int .i64 0,.int .i64 0,.bX,.bX,.int .u8 0,.int .i32 0]),none,none,some [(0,15),(15,1),(16,1),(17,1),(18,1),(19,1)]⟩),
 (108,⟨some 1,some false,some (.bX),none,none,none⟩),
 (26,⟨some 1,some false,some (.sl []),some 53,none,none⟩),
 (132,⟨some 1,some false,some (.sl []),some 131,none,none⟩),
 (2,⟨some 1,some false,some (.int .i64 0),none,some .i64,none⟩),
 (120,⟨some 1,some false,some (.bX),none,none,none⟩),
 (81,⟨some 5,some true,some (.agg [.bX,.int .i64 0,.int .i64 0,.int .i64 0,.bool false]),none,none,some [(0,1),(1,1),(2,1),(3,1),(4,1)]⟩),
 (139,⟨some 2,some true,some (.agg [.bX,.bool false]),none,none,some [(0,1),(1,1)]⟩),
 (178,⟨some 12,some true,some (.agg [.int .u8 0,.int .u8 0,.int .i32 0,.str ⟨#[]⟩,.sl [],.sl [],.int .i64 0,.int .i64 0,.str ⟨#[]⟩,.bool false,.int .i64 0,.int .i64 0]),none,none,some [(0,8),(8,1),(9,1),(10,2)]⟩),
 (25,⟨some 1,some false,some (.sl []),some 77,none,none⟩),
 (119,⟨some 5,some true,some (.agg [.bX,.sl [],.sl [],.pG,.pG]),none,none,some [(0,1),(1,1),(2,1),(3,1),(4,1)]⟩),
 (110,⟨some 1,some false,some (.sl []),some 1,none,none⟩),
 (128,⟨some 1,some false,some (.bX),none,none,none⟩),
 (73,⟨some 1,some false,some (.bX),none,none,none⟩),
 (37,⟨some 1,some false,some (.sl []),some 23,none,none⟩),
 (131,⟨some 2,some true,some (.agg [.int .u8 0,.int .i32 0]),none,none,some [(0,1),(1,1)]⟩),
 (35,⟨some 1,some false,some (.bX),none,none,none⟩),
 (109,⟨some 1,some false,some (.bX),none,none,none⟩),
 (133,⟨some 1,some false,some (.sl []),some 128,none,none⟩),
 (174,⟨some 1,some false,some (.sl []),some 178,none,none⟩),
 (215,⟨some 1,some false,some (.qW),none,none,none⟩),
 (55,⟨some 1,some false,some (.sl []),some 4,none,none⟩),
 (121,⟨some 1,some false,some (.bX),none,none,none⟩),
 (90,⟨some 3,some true,some (.agg [.sl [],.sl [],.pG]),none,none,some [(0,2),(2,1)]⟩),
 (77,⟨some 4,some true,some (.agg [.str ⟨#[]⟩,.sl [],.int .i64 0,.int .i64 0]),none,none,some [(0,1),(1,1),(2,2)]⟩),
 (116,⟨some 1,some false,some (.sl []),some 120,none,none⟩),
 (91,⟨some 1,some false,some (.sl []),some 84,none,none⟩),
 (22,⟨some 1,some false,some (.sl []),some 5,none,none⟩),
 (58,⟨some 1,some false,some (.sl []),some 195,none,none⟩),
 (87,⟨some 1,some true,some (.agg [.bX]),none,none,some [(0,1)]⟩),
 (195,⟨some 2,some true,some (.agg [.str ⟨#[]⟩,.str ⟨#[]⟩]),none,none,some [(0,1),(1,1)]⟩),
 (117,⟨some 1,some false,some (.sl []),some 121,none,none⟩),
 (75,⟨some 2,some true,some (.agg [.sl [],.int .i64 0]),none,none,some [(0,1),(1,1)]⟩),
 (144,⟨some 2,some true,some (.agg [.str ⟨#[]⟩,.int .i32 0]),none,none,some [(0,1),(1,1)]⟩),
 (141,⟨some 1,some false,some (.sl []),some 144,none,none⟩),
 (114,⟨some 1,some false,some (.pG),none,none,none⟩),
 (134,⟨some 1,some false,some (.sl []),some 3,none,none⟩),
 (223,⟨some 1,some false,some (.int .u64 0),none,some .u64,none⟩),
 (88,⟨some 1,some false,some (.pG),none,none,none⟩),
 (152,⟨some 1,some false,some (.sl []),some 46,none,none⟩),
 (217,⟨some 1,some false,some (.qW),none,none,none⟩),
 (115,⟨some 1,some false,some (.pG),none,none,none⟩),
 (1,⟨some 1,some false,some (.qW),none,none,none⟩)]
noncomputable def pa:nE prog:=⟨OF,by kernel_rfl⟩
theorem bN:prog.follows .mixedOrders=true:=by kernel_rfl
section
variable{n B:Nat}{s0:Sg}{Oo:Nat->Nat->Prop}{df:List Deferred}{sl P9:List (Nat×V)}{bx Qr:List (Nat×List M)}{H:Hp}{c:Code}{cf:Cf}{os os':Array Oper}{r r':List Oper}{ks ks':List K}{post:Exit->St->Prop}
theorem tC(ps:List Nat)(h:tD pa n H 5000 (.code c ks) ps sl bx= .at cf P9 Qr)(k:cf.den (TC ⟨prog,n,s0,Oo,df⟩) (TL ⟨prog,n,s0,Oo,df⟩) post ⟨P9,Qr,H⟩):TC ⟨prog,n,s0,Oo,df⟩ c ⟨sl,bx,H⟩ (Kp (TC ⟨prog,n,s0,Oo,df⟩) ks post):=
 mT (CY ⟨prog,n,s0,Oo,df⟩) pa _ h k
theorem tL(ps:List Nat)(h:tD pa n H 5000 (.ops os r ks) ps sl bx= .at cf P9 Qr)(k:cf.den (TC ⟨prog,n,s0,Oo,df⟩) (TL ⟨prog,n,s0,Oo,df⟩) post ⟨P9,Qr,H⟩):TL ⟨prog,n,s0,Oo,df⟩ os r ⟨sl,bx,H⟩ (Kn (TC ⟨prog,n,s0,Oo,df⟩) ks post):=
 mT (CY ⟨prog,n,s0,Oo,df⟩) pa _ h k
theorem tO(ps:List Nat)(h:tD pa n H 5000 (.code c ks) ps sl bx= .at (.ops os r ks') P9 Qr)(k:TL ⟨prog,n,s0,Oo,df⟩ os r ⟨P9,Qr,H⟩ (Kn (TC ⟨prog,n,s0,Oo,df⟩) ks' post)):TC ⟨prog,n,s0,Oo,df⟩ c ⟨sl,bx,H⟩ (Kp (TC ⟨prog,n,s0,Oo,df⟩) ks post):=
 mT (CY ⟨prog,n,s0,Oo,df⟩) pa _ h k
theorem tR(ps:List Nat)(h:tD pa n H 5000 (.ops os r ks) ps sl bx= .at (.ops os' r' ks') P9 Qr)(k:TL ⟨prog,n,s0,Oo,df⟩ os' r' ⟨P9,Qr,H⟩ (Kn (TC ⟨prog,n,s0,Oo,df⟩) ks' post)):TL ⟨prog,n,s0,Oo,df⟩ os r ⟨sl,bx,H⟩ (Kn (TC ⟨prog,n,s0,Oo,df⟩) ks post):=
 mT (CY ⟨prog,n,s0,Oo,df⟩) pa _ h k
theorem dC(ps:List Nat)(h:tD pa n H 5000 (.code c ks) ps sl bx= .at cf P9 Qr)(k:cf.den (DC prog n B) (DL prog n) post ⟨P9,Qr,H⟩):DC prog n B c ⟨sl,bx,H⟩ (Kp (DC prog n B) ks post):=
 mT (CZ _ n B) pa _ h k
theorem dL(ps:List Nat)(h:tD pa n H 5000 (.ops os r ks) ps sl bx= .at cf P9 Qr)(k:cf.den (DC prog n B) (DL prog n) post ⟨P9,Qr,H⟩):DL prog n os r ⟨sl,bx,H⟩ (Kn (DC prog n B) ks post):=
 mT (CZ _ n B) pa _ h k
theorem dO(ps:List Nat)(h:tD pa n H 5000 (.code c ks) ps sl bx= .at (.ops os r ks') P9 Qr)(k:DL prog n os r ⟨P9,Qr,H⟩ (Kn (DC prog n B) ks' post)):DC prog n B c ⟨sl,bx,H⟩ (Kp (DC prog n B) ks post):=
 mT (CZ _ n B) pa _ h k
theorem dR(ps:List Nat)(h:tD pa n H 5000 (.ops os r ks) ps sl bx= .at (.ops os' r' ks') P9 Qr)(k:DL prog n os' r' ⟨P9,Qr,H⟩ (Kn (DC prog n B) ks' post)):DL prog n os r ⟨sl,bx,H⟩ (Kn (DC prog n B) ks post):=
 mT (CZ _ n B) pa _ h k
theorem tF{a:Nat}{ops:List Oper}{es:List Ef}(h:qK pa n ops.toArray H ops.length ops sl bx []=some ([],P9,Qr,es))(b:gL ops sl es.reverse=true)(k:Kp (TC ⟨prog,n,s0,Oo,df⟩) ks post .normal ⟨P9,Qr,H⟩):
  TC ⟨prog,n,s0,Oo,df⟩ (.region a ops.toArray true) ⟨sl,bx,H⟩ (Kp (TC ⟨prog,n,s0,Oo,df⟩) ks post):=
 TC.draw bN (TF.rn (X:=⟨prog,n,s0,Oo,df⟩) pa _ h (TF.nil ⟨by simpa using b,k⟩))
theorem dF{a:Nat}{ops:List Oper}{es:List Ef}(h:qK pa n ops.toArray H ops.length ops sl bx []=some ([],P9,Qr,es))(b:gL ops sl es.reverse=true)(k:Kp (DC prog n B) ks post .normal ⟨P9,Qr,H⟩):
  DC prog n B (.region a ops.toArray true) ⟨sl,bx,H⟩ (Kp (DC prog n B) ks post):=
 Ps bN (λc d=>TF.rn (X:=⟨prog,n,c,d,[]⟩) pa _ h (TF.nil ⟨by simpa using b,rfl⟩)) k
theorem fR{a:Array Oper}{es:List Ef}{q:List Ef->St->Prop}(m:Nat)(h:qK pa n a H m r sl bx []=some (r',P9,Qr,es))(k:TF ⟨prog,n,s0,Oo,df⟩ a r' ⟨P9,Qr,H⟩ λb c=>q (es.reverse++b) c):TF ⟨prog,n,s0,Oo,df⟩ a r ⟨sl,bx,H⟩ q:=
 TF.rn (X:=⟨prog,n,s0,Oo,df⟩) pa m h k
theorem iR{b:Hp->Prop}{a:Array Oper}{es:List Ef}{q:List Ef->St->Prop}(m:Nat)(h:qK pa n a H m r sl bx []=some (r',P9,Qr,es))(k:jJ ⟨prog,n,s0,Oo,df⟩ b a r' ⟨P9,Qr,H⟩ λc d=>q (es.reverse++c) d):jJ ⟨prog,n,s0,Oo,df⟩ b a r ⟨sl,bx,H⟩ q:=
 jJ.run (X:=⟨prog,n,s0,Oo,df⟩) pa m (post:=q) h k
end
end Go.Proofs
namespace Go.Sm
open Go.Mt
abbrev Nm:=ByteArray
inductive Xp where
 |mk (k op n:Int) (s:Nm) (names:List Nm) (kids:List Xp) (p:Int×Int)
abbrev dJ(l:List Nm):List (List D):=l.map λx=>[.str x]
abbrev bU(k op n:Int)(s:Nm)(names:List Nm)(kids:List (List D))(p:Int×Int):List D:=[.int .u8 k,.int .u8 op,.int .i32 n,.str s,.sl (dJ names),.sl kids,.int .i64 p.1,.int .i64 p.2]
mutual
def Xp.cells:Xp->List D
 | .mk k op n s names kids p=>bU k op n s names (sT kids) p
def sT:List Xp->List (List D)
 | []=>[]
 |e::l=>e.cells::sT l
end
theorem IH(l:List Xp):sT l=l.map Xp.cells:=by induction l with
 |nil=>rfl
 |cons b l a=>simp[sT,a]
def Xp.kd:Xp->Int| .mk k _ _ _ _ _ _=>k
def Xp.op:Xp->Int| .mk _ o _ _ _ _ _=>o
def Xp.num:Xp->Int| .mk _ _ n _ _ _ _=>n
def Xp.nm:Xp->Nm| .mk _ _ _ s _ _ _=>s
def Xp.names:Xp->List Nm| .mk _ _ _ _ l _ _=>l
def Xp.kids:Xp->List Xp| .mk _ _ _ _ _ l _=>l
def Xp.ps:Xp->Int×Int| .mk _ _ _ _ _ _ p=>p
theorem Xp.aC(e:Xp):e.cells=bU e.kd e.op e.num e.nm e.names (e.kids.map Xp.cells) e.ps:=by
 cases e;rw[Xp.cells,IH];rfl
theorem Xp.len(e:Xp):e.cells.length=8:=by rw[e.aC];rfl
theorem Xp.C0{e k:Xp}(h:k∈e.kids):SizeOf.sizeOf k<SizeOf.sizeOf e:=by
 cases e;have:=aw0 h;simp only[Xp.kids]at this;simp;omega
abbrev Nc:Xp:= .mk 0 0 0 ⟨#[]⟩ [] [] (0,0)
abbrev J7(z:Int):Xp:= .mk 1 0 z ⟨#[]⟩ [] [] (0,0)
structure Va where
 name:Nm
 tk:Int
 tn:Nm
 clock:List (Nm×Nm)
 last:Bool
 first:Xp
 ps:Int×Int
abbrev tG(l:List (Nm×Nm)):List (List D):=l.map λc=>[.str c.1,.str c.2]
def Va.cells(v:Va):List D:=[.str v.name,.int .u8 v.tk,.str v.tn,.sl (tG v.clock),.bool v.last]++v.first.cells++ [.int .i64 v.ps.1,.int .i64 v.ps.2]
theorem Va.len(v:Va):v.cells.length=15:=by simp[Va.cells,Xp.len]
def aI(l:List Va):List (List D):=l.map Va.cells
structure Tr where
 e:Xp
 to:Nm
 fV:Bool
 ps:Int×Int
def Tr.cells(t:Tr):List D:=t.e.cells++ [.str t.to,.bool t.fV,.int .i64 t.ps.1,.int .i64 t.ps.2]
def fo(l:List Tr):List (List D):=l.map Tr.cells
mutual
inductive aB where
 |mk (k:Int) (lhs:List Nm) (f:Nm) (args:List Xp) (has:Bool) (e:Xp) (aj:List bh) (p:Int×Int)
inductive bh where
 |mk (name:Nm) (b:bj) (fG fH:List Tr) (p:Int×Int)
inductive bj where
 |mk (vars:List Va) (au:List aB)
end
abbrev sc(k:Int)(lhs:List Nm)(f:Nm)(args:List (List D))(has:Bool)(e:List D)(aj:List (List D))(p:Int×Int):List D:=[.int .u8 k,.sl (dJ lhs),.str f,.sl args,.bool has]++e++ [.sl aj,.int .i64 p.1,.int .i64 p.2]
mutual
def aB.cells:aB->List D
 | .mk k lhs f args has e aj p=>sc k lhs f (args.map Xp.cells) has e.cells (cm aj) p
def bh.cells:bh->List D
 | .mk name b fG fH p=>[.str name]++b.cells++ [.sl (fo fG),.sl (fo fH),.int .i64 p.1,.int .i64 p.2]
def cm:List bh->List (List D)
 | []=>[]
 |a::l=>a.cells::cm l
def bj.cells:bj->List D
 | .mk vars au=>[.sl (aI vars),.sl (bL au)]
def bL:List aB->List (List D)
 | []=>[]
 |q::l=>q.cells::bL l
end
theorem nF(l:List bh):cm l=l.map bh.cells:=by induction l with
 |nil=>rfl
 |cons b l a=>simp[cm,a]
theorem nG(l:List aB):bL l=l.map aB.cells:=by induction l with
 |nil=>rfl
 |cons b l a=>simp[bL,a]
def aB.kd:aB->Int| .mk k _ _ _ _ _ _ _=>k
def aB.lhs:aB->List Nm| .mk _ l _ _ _ _ _ _=>l
def aB.f:aB->Nm| .mk _ _ f _ _ _ _ _=>f
def aB.args:aB->List Xp| .mk _ _ _ a _ _ _ _=>a
def aB.has:aB->Bool| .mk _ _ _ _ h _ _ _=>h
def aB.ex:aB->Xp| .mk _ _ _ _ _ e _ _=>e
def aB.aj:aB->List bh| .mk _ _ _ _ _ _ l _=>l
def aB.ps:aB->Int×Int| .mk _ _ _ _ _ _ _ p=>p
def bh.name:bh->Nm| .mk n _ _ _ _=>n
def bh.cy:bh->bj| .mk _ b _ _ _=>b
def bh.fG:bh->List Tr| .mk _ _ u _ _=>u
def bh.fH:bh->List Tr| .mk _ _ _ w _=>w
def bh.ps:bh->Int×Int| .mk _ _ _ _ p=>p
def bj.vars:bj->List Va| .mk v _=>v
def bj.au:bj->List aB| .mk _ q=>q
theorem aB.aC(q:aB):q.cells=sc q.kd q.lhs q.f (q.args.map Xp.cells) q.has q.ex.cells (q.aj.map bh.cells) q.ps:=by cases q;rw[aB.cells,nF];rfl
theorem bj.aC(b:bj):b.cells= [.sl (aI b.vars),.sl (b.au.map aB.cells)]:=by cases b;rw[bj.cells,nG];rfl
theorem bh.aC(a:bh):a.cells= [.str a.name,.sl (aI a.cy.vars),.sl (a.cy.au.map aB.cells),.sl (fo a.fG),.sl (fo a.fH),.int .i64 a.ps.1,.int .i64 a.ps.2]:=by cases a;rw[bh.cells,bj.aC];rfl
theorem aB.len(q:aB):q.cells.length=16:=by rw[q.aC];simp[sc,Xp.len]
theorem bh.L5(a:bh):SizeOf.sizeOf a.cy<SizeOf.sizeOf a:=by cases a;simp[bh.cy];omega
theorem aB.L6{q:aB}{a:bh}(h:a∈q.aj):SizeOf.sizeOf a.cy<SizeOf.sizeOf q:=by
 have:=a.L5;cases q;have:=aw0 h;simp only[aB.aj]at this;simp;omega
structure Nd where
 name:Nm
 ins:List Va
 outs:List Va
 b:bj
 ps:Int×Int
def Nd.cells(n:Nd):List D:=[.str n.name,.sl (aI n.ins),.sl (aI n.outs),.sl (aI n.b.vars),.sl (n.b.au.map aB.cells),.int .i64 n.ps.1,.int .i64 n.ps.2]
structure En where
 name:Nm
 de:List Nm
 ps:Int×Int
def En.cells(e:En):List D:=[.str e.name,.sl (dJ e.de),.int .i64 e.ps.1,.int .i64 e.ps.2]
structure Pg where
 aJ:List En
 nodes:List Nd
abbrev Pg.cells(p:Pg):List D:=[.sl (p.aJ.map En.cells),.sl (p.nodes.map Nd.cells)]
def aS(l:List Nat):Nat:=l.foldr (·+ ·) 0
theorem iM(a:Nat)(l:List Nat):aS (a::l)=a+aS l:=rfl
theorem lf(a b:List Nat):aS (a++b)=aS a+aS b:=by
 induction a with
 |nil=>simp[aS]
 |cons d a c=>simp only[aS,avM,aw5]at c⊢;omega
theorem kh{l:List Nat}{x:Nat}(h:x∈l):x<=aS l:=by
 induction l with
 |nil=>cases h
 |cons b l a=>
  simp only[aS,aw5];rcases auX.1 h with rfl|h
  ·omega
  ·have:=a h;simp only[aS]at this;omega
theorem vx(l:List Nat)(i:Nat):aS (l.take i)<=aS l:=by
 have:=lf (l.take i) (l.drop i);rw[avC]at this;omega
theorem gx{a:Type}(f:a->Nat){l:List a}{i:Nat}(h:i<l.length):aS ((l.take (i+1)).map f)=aS ((l.take i).map f)+f l[i]/\aS ((l.take (i+1)).map f)<=aS (l.map f):=by
 refine⟨?_,?_⟩
 ·rw[au1 h,avi,lf];simp[aS]
 ·have:=vx (l.map f) (i+1);rw[<-aw2]at this;exact this
def dt(k:Int):Nat:=if k=9\/k=10\/k=11 then 1 else 0
def h_(k:Int):Nat:=if k=2\/k=4 then 1 else 0
mutual
def xP:Xp->Nat
 | .mk k _ _ _ _ kids _=>dt k+eg kids
def eg:List Xp->Nat
 | []=>0
 |e::l=>xP e+eg l
end
theorem sd(l:List Xp):eg l=aS (l.map xP):=by induction l with
 |nil=>rfl
 |cons b l a=>rw[eg,a];rfl
theorem F8(e:Xp):xP e=dt e.kd+aS (e.kids.map xP):=by cases e;rw[xP,sd];rfl
def aU(l:List Va):Nat:=(l.filter (·.last)).length
theorem mG(l:List Va)(i:Nat):aU (l.take i)<=aU l:=by
 have:aU (l.take i)+aU (l.drop i)=aU l:=by
  unfold aU;rw[<-auN,<-List.filter_append,avC]
 omega
theorem Bc(a b:List Va):aU (a++b)=aU a+aU b:=by simp[aU]
theorem qp(l:List Va)(w:Va):aU (l++ [w])=aU l+(if w.last then 1 else 0):=by
 rw[Bc];congr 1;cases a:w.last<;>simp[aU,a]
mutual
def qP:aB->Nat
 | .mk k _ _ args _ e aj _=>xP e+eg args+h_ k+lC aj
def gb:bh->Nat
 | .mk _ b _ _ _=>bP b
def lC:List bh->Nat
 | []=>0
 |a::l=>gb a+lC l
def bP:bj->Nat
 | .mk vars au=>aU vars+wo au
def wo:List aB->Nat
 | []=>0
 |q::l=>qP q+wo l
end
theorem BC(l:List bh):lC l=aS (l.map gb):=by induction l with
 |nil=>rfl
 |cons b l a=>rw[lC,a];rfl
theorem yB(l:List aB):wo l=aS (l.map qP):=by induction l with
 |nil=>rfl
 |cons b l a=>rw[wo,a];rfl
theorem qL(b:bj):bP b=aU b.vars+aS (b.au.map qP):=by cases b;rw[bP,yB];rfl
theorem oC(a:bh):gb a=bP a.cy:=by cases a;rw[gb];rfl
theorem jD(q:aB):qP q=xP q.ex+aS (q.args.map xP)+h_ q.kd+aS (q.aj.map gb):=by cases q;rw[qP,BC,sd];rfl
inductive jP:Xp->Prop where
 |mk {k op n:Int} {s:Nm} {names:List Nm} {kids:List Xp} {p:Int×Int} (h0:k=9->kids≠ []) (h1:kids.length<=1000000) (h2:names.length<=1000000) (h3: ∀e∈kids,jP e):jP (.mk k op n s names kids p)
inductive uP:bj->Prop where
 |mk {vars:List Va} {au:List aB} (h1:vars.length<=1000000) (h2:au.length<=1000000)
   (h3: ∀q∈au,∀a∈q.aj,uP a.cy) (h4: ∀q∈au,q.aj.length<=1000) (h5: ∀q∈au,jP q.ex/\q.args.length<=1000000/\ ∀e∈q.args,jP e) (h6: ∀q∈au,q.lhs.length<=1000000)
   (h7: ∀q∈au,∀a∈q.aj,a.fG.length<=1000000/\a.fH.length<=1000000):uP (.mk vars au)
abbrev mU:Nm:=⟨#[102,97,108,115,101]⟩
abbrev pS:Nm:=⟨#[116,114,117,101]⟩
def lJ(l:List Nm)(x:Nm):Int:=match l.findIdx? (λy=>decide (y=x))with
 |some i=>(i:Int)
 |none=> -1
def mV(l:List Nm)(x:Nm):Bool:=l.any λy=>decide (y=x)
theorem py{l:List Nm}{x:Nm} :mV l x=true↔x∈l:=by simp[mV]
def fq(en:List En)(tk:Int)(tn:Nm):List Nm:=
 if tk=1 then [mU,pS]else if tk=3 then(match en.find? (λe=>decide (e.name=tn))with|some e=>e.de|none=>[])else []
def rj(en:List En)(x:Nm):Int:=match en.find? (λt=>mV t.de x)with
 |some t=>lJ t.de x
 |none=>0
def pT(en:List En)(e:Xp):Int:=if e.kd=1\/e.kd=2 then e.num else if e.kd=3 then rj en e.nm else 0
def io(en:List En)(x:Nm):Int:=if x=mU then 0 else if x=pS then 1 else rj en x
def i32(n:Int):Int:=IntKind.i32.wrap n
def lD(b:Bool):Int:=if b then 1 else 0
def C1(op a:Int):Int:=if op=1 then lD (a==0)else if op=2 then i32 (-a)else 0
def jE(op a b:Int):Int:=
 if op=3 then i32 (a+b)else if op=4 then i32 (a-b)else if op=5 then i32 (a*b)
 else if op=6 then(if b=0 then 0 else if a= -2147483648/\b= -1 then a else i32 (Int.tdiv a b))
 else if op=7 then(if b=0 then 0 else if a= -2147483648/\b= -1 then 0 else Int.tmod a b)
 else if op=8 then lD (a !=0&&b !=0)else if op=9 then lD (a !=0||b !=0)
 else if op=10\/op=12 then lD (a !=b)else if op=11 then lD (a==b)
 else if op=13 then lD (decide (a<b))else if op=14 then lD (decide (a<=b))else if op=15 then lD (decide (b<a))else if op=16 then lD (decide (b<=a))else 0
def x_(en:List En)(k:Int)(kids:List Xp):List (Option Int):=
 if k=9 then [some (match kids with|e::_=>pT en e| []=>0)]else if k=10 then [some 0]else if k=11 then [some 1]else []
mutual
def ja(en:List En):Xp->List (Option Int)
 | .mk k _ _ _ _ kids _=>x_ en k kids++kF en kids
def kF(en:List En):List Xp->List (Option Int)
 | []=>[]
 |e::l=>ja en e++kF en l
end
def gO(en:List En)(l:List Va):List (Option Int):=(l.filter (·.last)).map λv=>some (pT en v.first)
mutual
def vy(en:List En):aB->List (Option Int)
 | .mk k _ _ args _ e aj _=>List.replicate (h_ k) none++(ja en e++kF en args)++ng en aj
def L7(en:List En):bh->List (Option Int)
 | .mk _ b _ _ _=>lE en b
def ng(en:List En):List bh->List (Option Int)
 | []=>[]
 |a::l=>L7 en a++ng en l
def lE(en:List En):bj->List (Option Int)
 | .mk vars au=>gO en vars++ju en au
def ju(en:List En):List aB->List (Option Int)
 | []=>[]
 |q::l=>vy en q++ju en l
end
def gX(en:List En)(d:Nd):List (Option Int):=lE en d.b++gO en d.outs
def bW(d:Nd):Nat:=bP d.b+aU d.outs
inductive US where
 |mk (i:Nat) (mem:Nat->Int) (cu:Nat->Bool) (an:Nat->Option US)
def US.i:US->Nat| .mk i _ _ _=>i
def US.mem:US->Nat->Int| .mk _ m _ _=>m
def US.cu:US->Nat->Bool| .mk _ _ p _=>p
def US.an:US->Nat->Option US| .mk _ _ _ s=>s
def bZ(l:List (Option Int))(k:Nat):Int:=((l[k]?).getD none).getD 0
def US.init(p:Pg)(i:Nat):US:= .mk i (λk=>match p.nodes[i]? with|some d=>bZ (gX p.aJ d) k|none=>0) (λ_=>false) (λ_=>none)
structure xi where
 vars:List Va
 cO:List (Option Nat)
 au:List aB
 pos:List Nat
def b_:List Va->Nat->List (Option Nat)
 | [],_=>[]
 |v::l,a=>if v.last then some a::b_ l (a+1)else none::b_ l a
def dX:List aB->Nat->List Nat
 | [],_=>[]
 |q::l,a=>a::dX l (a+qP q)
def vA(b:bj)(a:Nat):xi:=⟨b.vars,b_ b.vars a,b.au,dX b.au (a+aU b.vars)⟩
def rl(d:Nd):xi:=⟨d.ins++d.outs++d.b.vars,List.replicate d.ins.length none++b_ d.outs (bP d.b)++b_ d.b.vars 0,d.b.au,dX d.b.au (aU d.b.vars)⟩
def f_(l:List Va)(x:Nm):Option Nat:=l.findIdx? (λv=>decide (v.name=x))
def lK(l:List Nm)(x:Nm):List Nm:=if mV l x then l else l++ [x]
mutual
def cd:aB->List Nm
 | .mk _ lhs _ _ _ _ aj _=>jQ lhs aj
def jQ(l:List Nm):List bh->List Nm
 | []=>l
 |a::r=>jQ ((sf a).foldl lK l) r
def sf:bh->List Nm
 | .mk _ b _ _ _=>kT b
def kT:bj->List Nm
 | .mk vars au=>lX vars [] au
def lX(vars:List Va)(l:List Nm):List aB->List Nm
 | []=>l
 |q::r=>lX vars (((cd q).filter λx=>(f_ vars x).isNone).foldl lK l) r
end
abbrev Path:=List Nat
inductive It where
 |cell (π:Path) (k:Nat)|call (π:Path) (j:Nat)|bA (π:Path) (j:Nat)|lv (π:Path) (j:Nat)
structure aK where
 ok:Path->Prop
 fr:Path->xi
 val:Path->Nat->Option Int
 rk:Path->Nat->Nat
 sb:Path->Nat->Nat
 ek:Path->Nat->Nat
 bA:Path->Nat->Nat
 iO:Path->Nat->Bool
 ev:Path->Nat->Int
 ew:Path->Nat->List (Nat×Int)
 outs:Path->Nat->List Int
 iP:Path->Nat->US
 lg:Path->Nat->Nat
 nan:Path->Nat->Bool
 rd:Nat->Int
 rp:Nat->Bool
 rs:Nat->Option US
 eh:Nat
 sz:Nat
 ap:List It
 wt:It->Nat
def aK.find(c:aK):Path->Nm->Option (Path×Nat)
 | [],x=>(f_ (c.fr []).vars x).map λk=>([],k)
 |j::π,x=>match f_ (c.fr (j::π)).vars x with
  |some k=>some (j::π,k)
  |none=>c.find π x
def aK.get(c:aK)(σ:Path×Nat):Int:=(c.val σ.1 σ.2).getD 0
def aK.jX(c:aK)(σ:Path×Nat):Nat:=c.rk σ.1 σ.2
def aK.de(en:List En)(c:aK)(σ:Path×Nat):List Nm:=match(c.fr σ.1).vars[σ.2]? with
 |some v=>fq en v.tk v.tn
 |none=>[]
section
variable(en:List En)(c:aK)
inductive gP(π:Path):Nat->Xp->Nat->Int->List (Nat×Int)->Prop where
 |vB {r k op n s names kids p a} (hk:k=1\/k=2\/k=3):gP π r (.mk k op n s names kids p) a (pT en (.mk k op n s names kids p)) []
 |var {r op n s names kids p a σ} (h:c.find π s=some σ) (hr:c.jX σ<r):gP π r (.mk 4 op n s names kids p) a (c.get σ) []
 |last {r op n s names kids p a σ q} (h:c.find π s=some σ) (hp:(c.fr σ.1).cO[σ.2]?=some (some q)) (hq:q<c.sz):gP π r (.mk 5 op n s names kids p) a (c.rd q) []
 |un {r op n s names x p a v w} (h:gP π r x a v w):gP π r (.mk 6 op n s names [x] p) a (C1 op v) w
 |bin {r op n s names x y p a v w v' w'} (h:gP π r x a v w) (h':gP π r y (a+xP x) v' w'):gP π r (.mk 7 op n s names [x,y] p) a (jE op v v') (w++w')
 |ite {r op n s names x y z p a v w v' w' v'' Xu} (h:gP π r x a v w) (h':gP π r y (a+xP x) v' w') (h'':gP π r z (a+xP x+xP y) v'' Xu):gP π r (.mk 8 op n s names [x,y,z] p) a (if v=0 then v'' else v') (w++w'++Xu)
 |ga {r op n s names x y p a v w} (ha:a<c.sz) (h:gP π c.eh y (a+1+xP x) v w):gP π r (.mk 9 op n s names [x,y] p) a (c.rd a) ((a,v)::w)
 |pre {r op n s names y p a v w} (ha:a<c.sz) (h:gP π c.eh y (a+1) v w):gP π r (.mk 10 op n s names [y] p) a (c.rd a) ((a,v)::w)
 |arrow {r op n s names x y p a v w v' w'} (ha:a<c.sz) (h:gP π r x (a+1) v w) (h':gP π r y (a+1+xP x) v' w'):gP π r (.mk 11 op n s names [x,y] p) a (if c.rd a=0 then v' else v) ((a,0)::(w++w'))
 |fI {r op n s names x p a v w} (h:gP π r x a v w):gP π r (.mk 12 op n s names [x] p) a v w
 |merge {r op n s names kids p a σ i cn e v w} (h:c.find π s=some σ) (hr:c.jX σ<r) (hi:names[i]?=some cn) (hn:lJ (c.de en σ) cn=c.get σ)
   (Vi: ∀(i':Nat) (x:Nm),i'<i->names[i']?=some x->lJ (c.de en σ) x≠c.get σ) (hk:kids[i]?=some e) (he:gP π r e (a+eg (kids.take i)) v w):gP π r (.mk 13 op n s names kids p) a v w
inductive uY(π:Path)(r:Nat):List Xp->Nat->List Int->List (Nat×Int)->Prop where
 |nil {a} :uY π r [] a [] []
 |cons {e l a v w vs ws} (h:gP en c π r e a v w) (h':uY π r l (a+xP e) vs ws):uY π r (e::l) a (v::vs) (w++ws)
inductive zQ(π:Path)(r:Nat):List (Nm×Nm)->Bool->Prop where
 |nil:zQ π r [] true
 |no {k x l σ} (h:c.find π x=some σ) (hr:c.jX σ<r) (hv: ∀n,c.val σ.1 σ.2=some n->lJ (c.de en σ) k≠n):zQ π r ((k,x)::l) false
 |ym {k x l σ n b} (h:c.find π x=some σ) (hr:c.jX σ<r) (hv:c.val σ.1 σ.2=some n) (hn:lJ (c.de en σ) k=n) (h':zQ π r l b):zQ π r ((k,x)::l) b
inductive pU(π:Path)(r:Nat):List Tr->Option Tr->Prop where
 |nil:pU π r [] none
 |ym {t l v} (h:gP en c π r t.e 0 v []) (hv:v≠0):pU π r (t::l) (some t)
 |no {t l o} (h:gP en c π r t.e 0 0 []) (h':pU π r l o):pU π r (t::l) o
inductive Src:Nat->Path->Nat->Nm->Option (Path×Nat)->Prop where
 |leaf {r π j x q} (hq:(c.fr π).au[j]?=some q) (hk:q.kd=1\/q.kd=2) (hr:c.ek π j<=r):Src r π j x (some (π,j))
 |bA {r π j x q j' q' s} (hq:(c.fr π).au[j]?=some q) (hk:q.kd=3\/q.kd=4\/q.kd=5) (hr:c.ek π j<=r) (h':(c.fr (j::π)).au[j']?=some q') (hd:x∈cd q')
   (hf: ∀(i:Nat) (q:aB),i<j'->(c.fr (j::π)).au[i]?=some q->x∉cd q) (h:Src r (j::π) j' x s):Src r π j x s
 |last {r π j x q} (hq:(c.fr π).au[j]?=some q) (hk:q.kd=3\/q.kd=4\/q.kd=5) (hr:c.ek π j<=r) (PU: ∀q'∈(c.fr (j::π)).au,x∉cd q'):Src r π j x none
end
def gQ(q:aB)(p:Nat):Nat:=if q.kd=4 then p+1 else p+xP q.ex
def cI(q:aB)(p a:Nat):Nat:=gQ q p+aS ((q.aj.take a).map gb)
def cZ(l:List Nd)(x:Nm):Option Nat:=l.findIdx? (λd=>decide (d.name=x))
def nH(l:List bh)(x:Nm):Option Nat:=l.findIdx? (λa=>decide (a.name=x))
def aK.jg(c:aK)(π:Path)(q:aB):Prop:=(q.kd=1\/q.kd=2)->match q.lhs with
 | []=>True
 |x::_=> ∃σ,c.find π x=some σ/\(c.val σ.1 σ.2).isSome=true
section
variable(P:Pg)(step:US->List Int->List Int->US->Prop)(c:aK)
structure pV(π:Path)(j:Nat)(q:aB)(p:Nat)(a:bh):Prop where
 ha:q.aj[c.bA π j]?=some a
 ok:c.ok (j::π)
 fr:c.fr (j::π)=vA a.cy (cI q p (c.bA π j))
inductive F9(π:Path)(j:Nat)(q:aB)(p:Nat):Prop where
 |df (hk:q.kd=1) (x:Nm) (hl:q.lhs= [x]) (he:c.jg π q->gP P.aJ c π (c.ek π j) q.ex p (c.ev π j) (c.ew π j))
 |call (hk:q.kd=2) (hp:p<c.sz) (ci:Nat) (hn:cZ P.nodes q.f=some ci) (w0 w1:List (Nat×Int)) (vs:List Int)
   (h0:c.jg π q->if q.has then gP P.aJ c π (c.ek π j) q.ex (p+1) (c.ev π j) w0 else c.ev π j=0/\w0= [])
   (h1:c.jg π q->uY P.aJ c π (c.ek π j) q.args (p+1+xP q.ex) vs w1) (hw:c.ew π j=w0++w1)
   (hs:c.jg π q->step (((if c.ev π j=0 then c.rs p else none)).getD (US.init P ci)) vs (c.outs π j) (c.iP π j))
   (hi:c.jg π q-> ∀u,c.rs p=some u->u.i=ci)
   (ho:c.jg π q->q.lhs.length<=(c.outs π j).length)
 |sw (hk:q.kd=3) (he:gP P.aJ c π (c.ek π j) q.ex p (c.ev π j) (c.ew π j)) (a:bh) (ha:pV c π j q p a) (hv:io P.aJ a.name=c.ev π j)
   (hf: ∀(i:Nat) (b:bh),i<c.bA π j->q.aj[i]?=some b->io P.aJ b.name≠c.ev π j) (hn:c.iO π j=false)
 |aP (hk:q.kd=4) (hp:p<c.sz) (s:Nat) (a0:bh) (hs:c.rd p=(s:Int)) (h0:q.aj[s]?=some a0) (t:Option Tr) (hu:pU P.aJ c π (c.ek π j) a0.fG t)
   (ht:match t with|none=>c.bA π j=s/\c.iO π j=c.rp p|some t=>nH q.aj t.to=some (c.bA π j)/\c.iO π j= !t.fV) (a:bh) (ha:pV c π j q p a)
   (t':Option Tr) (U6:pU P.aJ c (j::π) c.eh a.fH t') (WY:match t' with|none=>c.lg π j=c.bA π j/\c.nan π j=false|some t=>nH q.aj t.to=some (c.lg π j)/\c.nan π j= !t.fV)
   (hw:c.ew π j= [])
 |reset (hk:q.kd=5) (he:gP P.aJ c π (c.ek π j) q.ex p (c.ev π j) (c.ew π j)) (a:bh) (ha:pV c π j q p a) (h0:c.bA π j=0) (hn:c.iO π j=decide (c.ev π j≠0))
def gR(f:xi)(k:Nat)(v:Va)(j:Nat):Prop:=f_ f.vars v.name=some k/\(∃q,f.au[j]?=some q/\v.name∈cd q)/\ ∀(i:Nat) (q:aB),j<i->f.au[i]?=some q->v.name∉cd q
structure C2(π:Path)(k:Nat)(v:Va)(lp:Option Nat):Prop where
 pr:zQ P.aJ c π (c.sb π k) v.clock (c.val π k).isSome
 sr:c.sb π k<=c.rk π k
 tp:c.rk π k<c.eh
 df: ∀n,c.val π k=some n-> ∃j s,gR (c.fr π) k v j/\Src c (c.sb π k) π j v.name s/\match s with
  |none=> ∃p,lp=some p/\p<c.sz/\n=c.rd p
  |some (PC,j')=>c.find PC v.name=some (π,k)/\ ∃q,(c.fr PC).au[j']?=some q/\(q.kd=1->q.lhs= [v.name]/\n=c.ev PC j')/\(q.kd=2->v.name∈q.lhs/\c.jg PC q)
def nJ(k:Nat)(v:Int):Prop:=(∃π j q,c.ok π/\(c.fr π).au[j]?=some q/\c.jg π q/\(k,v)∈c.ew π j)\/(∃π i,c.ok π/\(c.fr π).cO[i]?=some (some k)/\c.val π i=some v)
 \/(∃π j q,c.ok π/\(c.fr π).au[j]?=some q/\q.kd=4/\(c.fr π).pos[j]?=some k/\v=(c.lg π j:Int))
def xj(k:Nat)(b:Bool):Prop:= ∃π j q,c.ok π/\(c.fr π).au[j]?=some q/\q.kd=4/\(c.fr π).pos[j]?=some k/\b=c.nan π j
def wu(k:Nat)(u:US):Prop:= ∃π j q,c.ok π/\(c.fr π).au[j]?=some q/\q.kd=2/\c.jg π q/\(c.fr π).pos[j]?=some k/\u=c.iP π j
def fO(k:Nat):Prop:= ∃π j q p a,c.ok π/\(c.fr π).au[j]?=some q/\(c.fr π).pos[j]?=some p/\(q.kd=3\/q.kd=4\/q.kd=5)/\c.iO π j=true/\q.aj[c.bA π j]?=some a/\cI q p (c.bA π j)<=k/\k<cI q p (c.bA π j)+bP a.cy
structure gy(d:Nd)(u:US)(ins outs:List Int)(u':US):Prop where
 nd:P.nodes[u.i]?=some d
 sz:c.sz=bW d
 Bd:c.ok []
 i_: ∀j π,c.ok (j::π)->c.ok π/\ ∃q,(c.fr π).au[j]?=some q/\(q.kd=3\/q.kd=4\/q.kd=5)
 qe:c.fr []=rl d
 sU:ins.length=d.ins.length
 ya: ∀(k:Nat) (v:Va) (n:Int),d.ins[k]?=some v->ins[k]?=some n->c.val [] k=some n/\c.rk [] k<c.eh
 cell: ∀π k v lp,c.ok π->(c.fr π).vars[k]?=some v->(c.fr π).cO[k]?=some lp->(π= []->d.ins.length<=k)->C2 P c π k v lp
 eq: ∀π j q p,c.ok π->(c.fr π).au[j]?=some q->(c.fr π).pos[j]?=some p->F9 P step c π j q p/\c.ek π j<c.eh
 lhs: ∀π j q,c.ok π->(c.fr π).au[j]?=some q->q.kd=2->c.jg π q-> ∀(i:Nat) (x:Nm),q.lhs[i]?=some x-> ∃σ n,c.find π x=some σ/\c.val σ.1 σ.2=some n/\(c.outs π j)[i]?=some n/\c.sb σ.1 σ.2=c.ek π j/\c.ek π j<=c.jX σ
  /\(∀i' x' PW,q.lhs[i']?=some x'->c.find π x'=some PW->PW=σ->i'=i)/\ ∃s j0,gR (c.fr σ.1) σ.2 s j0/\s.name=x/\(c.fr σ.1).vars[σ.2]?=some s/\Src c (c.sb σ.1 σ.2) σ.1 j0 x (some (π,j))/\(σ.1= []->d.ins.length<=σ.2)
 nx: ∀π j,c.lg π j<=1000
 vD: ∀π,¬c.ok π->(c.fr π).vars= []/\(c.fr π).au= []
 gh: ∀(π:Path) (j:Nat) (q:aB),(c.fr π).au[j]?=some q->q.kd=2->c.sb (j::π) 0=c.ek π j/\c.val (j::π) 0=none
 lh: ∀(π:Path) (j:Nat) (q:aB),c.ok π->(c.fr π).au[j]?=some q-> ∀x∈q.lhs,∀σ,c.find π x=some σ->σ.1= []->d.ins.length<=σ.2
 II: ∀(i:Nat) (v:Va),d.outs[i]?=some v->c.find [] v.name=some ([],d.ins.length+i)
 F_: ∀(π:Path) (j:Nat) (q:aB) (x:Nm),c.ok π->(c.fr π).au[j]?=some q->q.kd=1->q.lhs= [x]->c.jg π q-> ∃σ s j0,c.find π x=some σ/\gR (c.fr σ.1) σ.2 s j0/\s.name=x/\(c.fr σ.1).vars[σ.2]?=some s/\Src c (c.sb σ.1 σ.2) σ.1 j0 x (some (π,j))/\(σ.1= []->d.ins.length<=σ.2)
 IK: ∀(π:Path) (j:Nat) (q:aB),c.ok π->(c.fr π).au[j]?=some q-> ∀x∈cd q,∃σ,c.find π x=some σ
 aj: ∀(π:Path) (j:Nat) (q:aB),c.ok π->(c.fr π).au[j]?=some q->q.kd=1\/q.kd=2->q.aj= []
 rd: ∀k,k<c.sz->(fO c k->c.rd k=bZ (gX P.aJ d) k)/\(¬fO c k->c.rd k=u.mem k)
 rp: ∀k,k<c.sz->(fO c k->(gX P.aJ d)[k]?=some none->c.rp k=false)/\(¬(fO c k/\(gX P.aJ d)[k]?=some none)->c.rp k=u.cu k)
 rs: ∀k,k<c.sz->(fO c k->(gX P.aJ d)[k]?=some none->c.rs k=none)/\(¬(fO c k/\(gX P.aJ d)[k]?=some none)->c.rs k=u.an k)
 nm: ∀k,k<c.sz->(∀v,nJ c k v->u'.mem k=v)/\((∀v,¬nJ c k v)->u'.mem k=c.rd k)
 np: ∀k,k<c.sz->(∀v,xj c k v->u'.cu k=v)/\((∀v,¬xj c k v)->u'.cu k=c.rp k)
 ns: ∀k,k<c.sz->(∀v,wu c k v->u'.an k=some v)/\((∀v,¬wu c k v)->u'.an k=c.rs k)
 ui:u'.i=u.i
 wc: ∀π k v,c.ok π->(c.fr π).vars[k]?=some v->(π= []->d.ins.length<=k)->It.cell π k∈c.ap/\1<=c.wt (.cell π k)/\ ∀j PC j' q,gR (c.fr π) k v j->Src c (c.sb π k) π j v.name (some (PC,j'))->(c.fr PC).au[j']?=some q->q.kd=1->1+(c.ew PC j').length<=c.wt (.cell π k)
 wq: ∀π j q,c.ok π->(c.fr π).au[j]?=some q->(q.kd=2->c.jg π q->It.call π j∈c.ap/\(c.ew π j).length<=c.wt (.call π j))/\(q.kd=3\/q.kd=4\/q.kd=5->It.bA π j∈c.ap/\(c.ew π j).length<=c.wt (.bA π j))/\(q.kd=4->It.lv π j∈c.ap/\1<=c.wt (.lv π j))
 ws:(c.ap.map c.wt).foldr (·+ ·) 0<=1000000000000
 outs:outs=(List.range d.outs.length).map λi=>c.get ([],d.ins.length+i)
end
def d_(P:Pg):Nat->US->List Int->List Int->US->Prop
 |0,_,_,_,_=>False
 |n+1,u,ins,outs,u'=> ∃c d,gy P (d_ P n) c d u ins outs u'
def bE(n:Nat)(f:Nat->M):List M:=(List.range n).map f
theorem jh{n:Nat}{f:Nat->M}{k:Nat}(h:k<n):(bE n f)[((k:Nat):Int).toNat*1]?=some (f k):=by simp[bE,h]
def tH(f:Nat->M)(k:Nat)(v:M)(j:Nat):M:=if j=k then v else f j
theorem oe{n:Nat}{f:Nat->M}{k:Nat}(v:M)(h:k<n):ep (bE n f) (((k:Nat):Int).toNat*1) [v]=some (bE n (tH f k v)):=by
 have e:((k:Nat):Int).toNat*1=k:=by omega
 rw[e];unfold ep;have c:Nat.ble (k+ [v].length) (bE n f).length=true:=by
  rw[Nat.ble_eq];simp[bE];omega
 rw[c];simp only[avx]
 congr 1
 apply List.ext_getElem
 ·simp[bE];try omega
 ·intro a g d;simp only[bE,au8,List.length_range]at d;rcases av6 a k with b|b|b
  ·rw[awL (by simp[bE];omega),awL (by simp[bE];omega)];simp[bE,tH,show ¬a=k by omega]
  ·subst b;rw[awL (by simp[bE];omega),axe (by simp[bE];omega)];simp[bE,tH,awN (axF h)]
  ·rw[axe (by simp[bE];omega)];simp[bE,awN (axF h),tH,show ¬a=k by omega]
   congr 1
   omega
theorem qM{n:Nat}{f g:Nat->M}(h: ∀a,a<n->f a=g a):bE n f=bE n g:=by
 unfold bE;exact avy λa b=>h a (awp.1 b)
abbrev J8(d:Nd):List M:=[.d (.str d.name),.d (.sl (aI d.ins)),.d (.sl (aI d.outs)),.d (.sl (aI d.b.vars)),.d (.sl (d.b.au.map aB.cells)),.d (.int .i64 d.ps.1),.d (.int .i64 d.ps.2)]
abbrev pW(P:Pg)(d:Nd)(im ip jR:Nat):List M:=[.d (.sl (P.aJ.map En.cells)),.d (.sl (P.nodes.map Nd.cells))]++J8 d++ [.bH im 0 (bW d),.bH ip 0 (bW d),.bH jR 0 (bW d),.d (.int .i64 ((bW d:Nat):Int))]
abbrev ji(f:Nat->Int)(k:Nat):M:= .d (.int .i32 (f k))
abbrev kA(f:Nat->Bool)(k:Nat):M:= .d (.bool (f k))
abbrev fA(f:Nat->Option US)(ad:Nat->Nat)(k:Nat):M:=match f k with
 |none=> .d .bX
 |some _=> .ref (ad k) 0
inductive C3 where
 |un|me|pe|su
 |sb (k:Nat)
def iZ(P:Pg):Nat->US->Nat->(Nat->Prop)->Hp->Prop
 |0,_,_,_,_=>False
 |n+1,u,iu,F,H=> ∃(d:Nd) (own:Nat->Option C3) (im ip jR:Nat) (ad:Nat->Nat),P.nodes[u.i]?=some d/\(∀a,F a↔own a≠none)/\(∀a,F a->a<H.length)/\
   (own iu=some .un/\own im=some .me/\own ip=some .pe/\own jR=some .su)/\
   H[iu]?=some (.box (pW P d im ip jR))/\H[im]?=some (.row false 1 0 (bE (bW d) (ji u.mem)))/\H[ip]?=some (.row false 1 0 (bE (bW d) (kA u.cu)))/\
   H[jR]?=some (.row false 1 0 (bE (bW d) (fA u.an ad)))/\
   ∀k,k<bW d-> ∀u',u.an k=some u'->iZ P n u' (ad k) (λa=>own a=some (.sb k)) H
theorem iZ.frame{P:Pg} : ∀{n:Nat} {u:US} {iu:Nat} {F:Nat->Prop} {H K:Hp},iZ P n u iu F H->(∀a,F a->K[a]?=H[a]?)->H.length<=K.length->iZ P n u iu F K
 |0,_,_,_,_,_,b,_,_=>b.elim
 |n+1,u,iu,F,H,K,b,i,f=>by
  obtain⟨d,z,j,k,l,m,o,g,p,⟨q,r,s,t⟩,A,B,C,D,v⟩:=b;refine⟨d,z,j,k,l,m,o,g,λa c=>avR (p a c) f,⟨q,r,s,t⟩,?_,?_,?_,?_,λh w x y=>(v h w x y).frame (λa c=>i a ((λe=>(g _).2 (by rw[e];simp)) c)) f⟩
  ·grind
  ·grind
  ·grind
  ·grind
theorem iZ.lt{P:Pg}{n:Nat}{u:US}{iu:Nat}{F:Nat->Prop}{H:Hp}(h:iZ P n u iu F H): ∀a,F a->a<H.length:=by
 cases n with
 |zero=>exact h.elim
 |succ n=>obtain⟨_,_,_,_,_,_,_,_,b,_⟩:=h;exact b
theorem iZ.congr{P:Pg}{n:Nat}{u:US}{iu:Nat}{F b:Nat->Prop}{H:Hp}(h:iZ P n u iu F H)(e: ∀a,F a↔b a):iZ P n u iu b H:=by
 have:F=b:=funext λa=>propext (e a)
 subst this;exact h
theorem iZ.up{P:Pg} : ∀{n:Nat} {u:US} {iu:Nat} {F:Nat->Prop} {H:Hp},iZ P n u iu F H->iZ P (n+1) u iu F H
 |0,_,_,_,_,a=>a.elim
 |n+1,u,iu,F,H,a=>by
  obtain⟨d,v,c,e,f,g,h,i,j,k,l,m,o,p,q⟩:=a;exact⟨d,v,c,e,f,g,h,i,j,k,l,m,o,p,λb r s t=>(q b r s t).up⟩
theorem BD(en:List En)(k:Int)(kids:List Xp):(x_ en k kids).length=dt k:=by
 unfold x_ dt;split
 ·grind
 ·grind
mutual
theorem Eb(en:List En): ∀e:Xp,(ja en e).length=xP e
 | .mk b g c d h a f=>by rw[ja,xP,auN,BD,uI en a]
theorem uI(en:List En): ∀l:List Xp,(kF en l).length=eg l
 | []=>rfl
 |e::l=>by rw[kF,eg,auN,Eb en e,uI en l]
end
theorem oD(en:List En)(l:List Va):(gO en l).length=aU l:=by simp[gO,aU]
mutual
theorem J9(en:List En): ∀q:aB,(vy en q).length=qP q
 | .mk b f c h g e a d=>by rw[vy,qP];simp only[auN,awj,Eb,uI,xk en a];omega
theorem J_(en:List En): ∀a:bh,(L7 en a).length=gb a
 | .mk f b c d e=>by rw[L7,gb,ww en b]
theorem xk(en:List En): ∀l:List bh,(ng en l).length=lC l
 | []=>rfl
 |a::l=>by rw[ng,lC,auN,J_ en a,xk en l]
theorem ww(en:List En): ∀b:bj,(lE en b).length=bP b
 | .mk c a=>by rw[lE,bP,auN,oD,rm en a]
theorem rm(en:List En): ∀l:List aB,(ju en l).length=wo l
 | []=>rfl
 |a::l=>by rw[ju,wo,auN,J9 en a,rm en l]
end
theorem BE(en:List En)(l:List Xp):kF en l=(l.map (ja en)).flatten:=by
 induction l with
 |nil=>rfl
 |cons b l a=>rw[kF,a];rfl
theorem mH(en:List En)(l:List aB):ju en l=(l.map (vy en)).flatten:=by
 induction l with
 |nil=>rfl
 |cons b l a=>rw[ju,a];rfl
theorem BF(en:List En)(l:List bh):ng en l=(l.map λa=>lE en a.cy).flatten:=by
 induction l with
 |nil=>rfl
 |cons a l b=>rw[ng,b];cases a;rw[L7];rfl
theorem L8(en:List En)(e:Xp):ja en e=x_ en e.kd e.kids++kF en e.kids:=by cases e;rw[ja];rfl
theorem L9(en:List En)(q:aB):vy en q=List.replicate (h_ q.kd) none++(ja en q.ex++kF en q.args)++ng en q.aj:=by cases q;rw[vy];rfl
theorem C4(en:List En)(b:bj):lE en b=gO en b.vars++ju en b.au:=by cases b;rw[lE];rfl
theorem Ec(en:List En)(a b:List Va):gO en (a++b)=gO en a++gO en b:=by simp[gO]
def mD(l:List (Option Int))(a fr to:Nat)(m:Nat->Int)(k:Nat):Int:=if a<=k/\k<a+l.length/\fr<=k/\k<to then bZ l (k-a)else m k
def qt(l:List (Option Int))(a fr to:Nat)(m:Nat->Bool)(k:Nat):Bool:=if(a<=k/\k<a+l.length/\fr<=k/\k<to)/\l[k-a]?=some none then false else m k
def qu(l:List (Option Int))(a fr to:Nat)(m:Nat->Option US)(k:Nat):Option US:=if(a<=k/\k<a+l.length/\fr<=k/\k<to)/\l[k-a]?=some none then none else m k
theorem IL(a fr b:Nat)(m:Nat->Int):mD [] a fr b m=m:=by funext c;unfold mD;rw[auU (by simp;omega)]
theorem IM(a fr b:Nat)(m:Nat->Bool):qt [] a fr b m=m:=by funext c;unfold qt;rw[auU (by simp)]
theorem IN(a fr b:Nat)(m:Nat->Option US):qu [] a fr b m=m:=by funext c;unfold qu;rw[auU (by simp)]
theorem mW{a b:List (Option Int)}{i:Nat} :(a++b)[i]?=if i<a.length then a[i]? else b[i-a.length]?:=by grind
theorem IP(c e:List (Option Int))(a fr d:Nat)(m:Nat->Int):mD (c++e) a fr d m=mD e (a+c.length) fr d (mD c a fr d m):=by
 funext b
 unfold mD;simp only[auN];by_cases f:a+c.length<=b/\b<a+c.length+e.length/\fr<=b/\b<d
 ·rw[au2 (by omega),au2 f];unfold bZ;rw[mW,auU (by omega),show b-a-c.length=b-(a+c.length) by omega]
 ·rw[auU f];by_cases g:a<=b/\b<a+c.length/\fr<=b/\b<d
  ·rw[au2 (by omega),au2 g];unfold bZ;rw[mW,au2 (by omega)]
  ·grind
theorem IQ(b e:List (Option Int))(a fr d:Nat)(m:Nat->Bool):qt (b++e) a fr d m=qt e (a+b.length) fr d (qt b a fr d m):=by
 funext c
 unfold qt;simp only[auN,mW];by_cases f:a+b.length<=c/\c<a+b.length+e.length/\fr<=c/\c<d
 ·grind
 ·grind
theorem IR(b e:List (Option Int))(a fr d:Nat)(m:Nat->Option US):qu (b++e) a fr d m=qu e (a+b.length) fr d (qu b a fr d m):=by
 funext c
 unfold qu;simp only[auN,mW];by_cases f:a+b.length<=c/\c<a+b.length+e.length/\fr<=c/\c<d
 ·grind
 ·grind
structure Kp where
 m:Nat->Int
 p:Nat->Bool
 s:Nat->Option US
def Kp.fV(x:Kp)(l:List (Option Int))(a fr to:Nat):Kp:=⟨mD l a fr to x.m,qt l a fr to x.p,qu l a fr to x.s⟩
theorem Kp.wx(x:Kp)(a fr b:Nat):x.fV [] a fr b=x:=by unfold Kp.fV;rw[IL,IM,IN]
theorem Kp.rq(x:Kp)(b d:List (Option Int))(a fr c:Nat):x.fV (b++d) a fr c=(x.fV b a fr c).fV d (a+b.length) fr c:=by unfold Kp.fV;rw[IP,IQ,IR]
theorem tI(v:Va)(l:List Va):aU (v::l)=(if v.last then 1 else 0)+aU l:=by
 unfold aU;rw[List.filter_cons];split
 ·simp;omega
 ·simp
theorem gd{l:List Va} : ∀{a k q:Nat},(b_ l a)[k]?=some (some q)->a<=q/\q<a+aU l:=by
 induction l with
 |nil=>intro a k q b;simp[b_]at b
 |cons v l c=>
  intro a k q b;rw[tI];unfold b_ at b;split at b
  ·grind
  ·grind
theorem uJ{l:List aB} : ∀{a j p:Nat} {q:aB},(dX l a)[j]?=some p->l[j]?=some q->a<=p/\p+qP q<=a+aS (l.map qP):=by
 induction l with
 |nil=>intro a j p q b;simp[dX]at b
 |cons e l d=>
  intro a j p q b c;rw[avm,iM];cases j with
  |zero=>
   simp only[dX,List.getElem?_cons_zero]at b c;injection b with b
   injection c with c
   subst b;subst c;omega
  |succ j=>
   have:=d (a:=a+qP e) (by simpa [dX] using b) (by simpa using c);omega
theorem iF(l:List aB): ∀a,(dX l a).length=l.length:=by
 induction l with
 |nil=>intro a;rfl
 |cons e l b=>intro a;simp[dX,b]
theorem ff(l:List Va): ∀a,(b_ l a).length=l.length:=by
 induction l with
 |nil=>intro a;rfl
 |cons e l b=>intro a;unfold b_;split<;>simp[b]
theorem uK{q:aB}{p i:Nat}{a:bh}(h:q.aj[i]?=some a)(f:q.kd=3\/q.kd=4\/q.kd=5)(g:q.kd=4->xP q.ex=0)(k:q.args= []):p+h_ q.kd+xP q.ex<=cI q p i/\cI q p i+bP a.cy<=p+qP q:=by
 have d:i<q.aj.length:=by
  grind
 have j:=gx gb d;rw[auO d]at h;injection h with h
 rw[h]at j;have l:=oC a;have c:=jD q;rw[k]at c;simp only[avT]at c;unfold cI gQ;rcases f with b|b|b
 ·rw[b]at c⊢;have e:h_ 3=0:=by decide
  rw[auU (by decide)];omega
 ·have:=g b;rw[b]at c⊢;have e:h_ 4=1:=by decide
  rw[au2 W];omega
 ·rw[b]at c⊢;have e:h_ 5=0:=by decide
  rw[auU (by decide)];omega
end Go.Sm
namespace Go.Mt
end Go.Mt
namespace Go.Sm
open Go.Mt
theorem Ed(k:Int):(k=9/\dt k=1)\/(k=10/\dt k=1)\/(k=11/\dt k=1)\/(k≠9/\k≠10/\k≠11/\dt k=0):=by unfold dt;split<;>omega
theorem Ee(k:Int):(k=2/\h_ k=1)\/(k=4/\h_ k=1)\/(k≠2/\k≠4/\h_ k=0):=by unfold h_;split<;>omega
theorem jP.tJ{e k:Xp}(h:jP e)(a:k∈e.kids):jP k:=by cases h with|mk c d f b=>exact b k a
theorem jP.kids{e:Xp}(h:jP e):e.kids.length<=1000000:=by cases h with|mk b a c d=>exact a
theorem jP.ga{e:Xp}(h:jP e)(b:e.kd=9): ∃a l,e.kids=a::l:=by
 cases h with|mk c d f g=>exact List.exists_cons_of_ne_nil (c b)
theorem jP.names{e:Xp}(h:jP e):e.names.length<=1000000:=by cases h with|mk b c a d=>exact a
theorem bD(l:List Va):(aI l).length=l.length:=by simp[aI]
theorem ez{l:List Va}{i:Nat}(h:i<l.length):(aI l)[(i:Int).toNat]?=some l[i].cells:=by simp[aI,h]
theorem cx(l:List Va): ∀r∈aI l,r.length=15:=by intro r a;obtain⟨_,_,rfl⟩:=ava.1 a;exact Va.len _
theorem Va.aC(v:Va):v.cells= [.str v.name,.int .u8 v.tk,.str v.tn,.sl (tG v.clock),.bool v.last,.int .u8 v.first.kd,.int .u8 v.first.op,.int .i32 v.first.num,.str v.first.nm,.sl (dJ v.first.names),.sl (v.first.kids.map Xp.cells),.int .i64 v.first.ps.1,.int .i64 v.first.ps.2,.int .i64 v.ps.1,.int .i64 v.ps.2]:=by unfold Va.cells;rw[v.first.aC];rfl
end Go.Sm
namespace Go.Proofs.Sz
open Go.Mt Go.Sm Go.Proofs
open Tryz
instance:bz prog 85:=cN (by kernel_rfl)
instance:bz prog 55:=cN (by kernel_rfl)
instance:bz prog 40:=cN (by kernel_rfl)
theorem ki(e:Xp)(p:jP e)(j:xP e<=1000000000):PT prog 85 [.agg e.cells] (·= [iN (xP e)]):=by
 have k:=F8 e;have q: ∀c∈e.kids,PT prog 85 [.agg c.cells] (·= [iN (xP c)]):= λc d=>
  have:=Xp.C0 d
  ki c (p.tJ d) (by have:=kh (avw (f:=xP) d);omega)
 have l:=e.aC;have m:=Ed e.kd;have t:=p.kids;rw[l,k];rw[k]at j;generalize e.kids=a at q j k l t⊢;generalize dt e.kd=g at m j⊢;generalize e.kd=u at m l⊢;generalize e.op=v;generalize e.num=s;generalize e.nm=i;generalize e.names=E;generalize e.ps=w;refine PI (CT.ob func85 W ntmps85 W λF G=> ?_);refine tC [2,2] W<|TC.OE ⟨[nN 3 g,nD 1 (.bm (bU u v s i E (a.map Xp.cells) w) 0)],[],[]⟩ ?_ ?_
 ·rcases m with⟨rfl,rfl⟩|⟨rfl,rfl⟩|⟨rfl,rfl⟩|⟨x,y,z,rfl⟩
  ·refine tO [2,1,2,24] W<|az W W W (by omega)<|tL [] W<|down W W
  ·refine tO [2,1,2,24] W<|az W W W (by omega)<|tL [] W<|down W W
  ·refine tO [2,1,2,24] W<|az W W W (by omega)<|tL [] W<|down W W
  ·have A:=avs.2 x;refine tO [2,12] W<|aQ A W W W W<|tR [16] W ?_
   first|refine ax W W ?_|(refine av W ?_;(refine aQ (avs.2 y) W W W W ?_))
   refine tR [21] W ?_
   first|refine ax W W ?_|(refine av W ?_;(refine aQ (avs.2 z) W W W W ?_))
   refine tL [0] W<|down W W
 refine tO [2,27] W<|bp W W W ?_;rw[au8];refine tL [] W<|Rn [nN 24 0,nN 23 a.length,nD 22 (.sl (a.map Xp.cells)),nN 3 (g+aS ((a.take 0).map xP))] [] W W<|tC [3] W<|TC.lp (λc i=> ∃(b:Nat) (r:List (Nat×List M)),i=⟨[nN 24 b,nN 23 a.length,nD 22 (.sl (a.map Xp.cells)),nN 3 (g+aS ((a.take b).map xP))],r,[]⟩/\b<=a.length/\c=a.length-b) a.length _
  ⟨0,_,rfl,by omega,rfl⟩ W ?_
 rintro c i ⟨b,r,rfl,H,rfl⟩;refine tC [2] W<|TC.cond W (λB=> ?_) (λB=> ?_)
 ·have h:b<a.length:=by grind
  have n:(a.map Xp.cells)[((b:Nat):Int).toNat]?=some a[b].cells:=by simp[h]
  have d:=q _ (avb h);have C:aS ((a.take (b+1)).map xP)=aS ((a.take b).map xP)+xP a[b]:=by rw[au1 h,avi,lf];simp[aS]
  have I:aS ((a.take (b+1)).map xP)<=aS (a.map xP):=by have:=vx (a.map xP) (b+1);rw[<-aw2]at this;exact this
  generalize a[b]=o at n d C;rw[o.aC]at n d;have D:((g+aS ((a.take b).map xP):Nat):Int)+((xP o:Nat):Int)=((g+aS ((a.take (b+1)).map xP):Nat):Int):=by omega
  refine tO [3,2,30] W<|aG W W W (auJ b) n W<|tR [2,34] W<|aE d W W<|tR [35] W<|az W W W (by omega) ?_;rw[D];refine tR [2,36] W<|az W W W (by omega)<|tL [] W<|again (k':=a.length-(b+1)) (by omega) ⟨b+1,_,rfl,by omega,rfl⟩ W W
 ·refine TC.exit ?_;have h:b=a.length:=by grind
  subst h;rw[avo];refine tC [2] W<|TC.ret ⟨_,W,[_],W,W⟩
termination_by SizeOf.sizeOf e
end Go.Proofs.Sz
namespace Go.Sm
theorem qv{s:Type}{l:List s}(h:l.length=16): ∃a b c d e f g i j k m n o p q r,l= [a,b,c,d,e,f,g,i,j,k,m,n,o,p,q,r]:=by
 match l,h with
 | [a,b,c,d,e,f,g,i,j,k,m,n,o,p,q,r],_=>exact⟨_,_,_,_,_,_,_,_,_,_,_,_,_,_,_,_,W⟩
end Go.Sm
namespace Go.Proofs.Sz
open Go.Mt Go.Sm Go.Proofs
open Tryz
theorem C5(q:aB)(y:jP q.ex)(R:q.args.length<=1000000)(z: ∀e∈q.args,jP e)(l:qP q<=1000000000)(K:q.aj.length<=1000)(A: ∀x∈q.aj,PT prog 40 [.agg x.cy.cells] (·= [iN (bP x.cy)])):PT prog 55 [.agg q.cells] (·= [iN (qP q)]):=by
 have B:=jD q;have t:=Ee q.kd;have w:=ki q.ex y (by omega);have G: ∀e∈q.args,PT prog 85 [.agg e.cells] (·= [iN (xP e)]):= λe C=>ki e (z e C) (by have:=kh (avw (f:=xP) C);omega)
 have h:=q.aC;rw[h,B];rw[B]at l;generalize h_ q.kd=p at t l⊢;generalize q.kd=D at t h⊢;generalize q.lhs=H at h⊢;generalize q.f=E at h⊢;generalize q.has=I at h⊢;generalize q.ps=F at h⊢;generalize q.args=c at z R G l h⊢;generalize q.aj=b at K A l h⊢;generalize q.ex=d at y w l h⊢;rw[d.aC]at w h⊢;refine PI (CT.ob func55 W ntmps55 W λU V=> ?_);refine tO [2,2,14] W<|aE w W W<|tR [2,17] W<|bp W W W ?_;rw[au8];refine tL [] W ?_;obtain⟨r,J⟩: ∃r,r=sc D H E (c.map Xp.cells) I (bU d.kd d.op d.num d.nm d.names (d.kids.map Xp.cells) d.ps) (b.map bh.cells) F:=⟨_,rfl⟩;refine Rn [nN 14 0,nN 13 c.length,nD 12 (.sl (c.map Xp.cells)),nN 3 (xP d+aS ((c.take 0).map xP)),nD 1 (.bm r 0)] [] (kc W (kc W (kc W (kc W (kc (by rw[J];rfl) W))))) W<|tC [3] W<|TC.lp (λn o=> ∃(a:Nat) (m:List (Nat×List M)),o=⟨[nN 14 a,nN 13 c.length,nD 12 (.sl (c.map Xp.cells)),nN 3 (xP d+aS ((c.take a).map xP)),nD 1 (.bm r 0)],m,[]⟩/\a<=c.length/\n=c.length-a) c.length _
  ⟨0,_,rfl,by omega,rfl⟩ W ?_
 rintro n o ⟨a,m,rfl,L,rfl⟩;refine tC [2] W<|TC.cond W (λu=> ?_) (λu=> ?_)
 ·have g:a<c.length:=by grind
  have j:(c.map Xp.cells)[((a:Nat):Int).toNat]?=some c[a].cells:=by simp[g]
  have k:=G _ (avb g);obtain⟨s,S⟩:=gx xP g;generalize c[a]=q at j k s;rw[q.aC]at j k;have v:((xP d+aS ((c.take a).map xP):Nat):Int)+((xP q:Nat):Int)=((xP d+aS ((c.take (a+1)).map xP):Nat):Int):=by omega
  refine tO [3,2,20] W<|aG W W W (auJ a) j W<|tR [2,24] W<|aE k W W<|tR [25] W<|az W W W (by omega) ?_;rw[v];refine tR [2,26] W<|az W W W (by omega)<|tL [] W<|again (k':=c.length-(a+1)) (by omega) ⟨a+1,_,rfl,by omega,rfl⟩ W W
 refine TC.exit ?_;have g:a=c.length:=by grind
 subst g;rw[avo];obtain⟨i,N⟩: ∃i,i=xP d+aS (c.map xP):=⟨_,rfl⟩;rw[<-N]at l⊢;subst J;refine tC [] W<|TC.OE ⟨[nN 3 (i+p),nD 1 (.bm (sc D H E (c.map Xp.cells) I (bU d.kd d.op d.num d.nm d.names (d.kids.map Xp.cells) d.ps) (b.map bh.cells) F) 0)],m,[]⟩ ?_ ?_
 ·rcases t with⟨rfl,rfl⟩|⟨rfl,rfl⟩|⟨O,P,rfl⟩
  ·refine tO [2,1,2,36] W<|az W W W (by omega)<|tL [] W<|down W W
  ·refine tO [2,1,2,36] W<|az W W W (by omega)<|tL [] W<|down W W
  ·have Q:=avs.2 O;refine tO [2,29] W<|aQ Q W W W W<|tR [33] W ?_
   first|refine ax W W ?_|(refine av W ?_;(refine aQ (avs.2 P) W W W W ?_))
   refine tL [0] W<|down W W
 have T:(b.map bh.cells).length=b.length:=by simp
 refine tO [2,39] W<|bp W W W ?_;rw[T];refine tL [] W<|Rn [nN 36 0,nN 35 b.length,nD 34 (.sl (b.map bh.cells)),nN 3 (i+p+aS ((b.take 0).map gb))] [] W W<|tC [3] W<|TC.lp (λn o=> ∃(a:Nat) (m:List (Nat×List M)),o=⟨[nN 36 a,nN 35 b.length,nD 34 (.sl (b.map bh.cells)),nN 3 (i+p+aS ((b.take a).map gb))],m,[]⟩/\a<=b.length/\n=b.length-a) b.length _
  ⟨0,_,rfl,by omega,rfl⟩ W ?_
 rintro n o ⟨a,m,rfl,L,rfl⟩;refine tC [2] W<|TC.cond W (λu=> ?_) (λu=> ?_)
 ·have g:a<b.length:=by grind
  have j:(b.map bh.cells)[((a:Nat):Int).toNat]?=some b[a].cells:=by simp[g]
  have k:=A _ (avb g);obtain⟨s,S⟩:=gx gb g;generalize b[a]=q at j k s;rw[oC]at s;rw[bj.aC]at k;rw[bh.aC]at j;have v:((i+p+aS ((b.take a).map gb):Nat):Int)+((bP q.cy:Nat):Int)=((i+p+aS ((b.take (a+1)).map gb):Nat):Int):=by omega
  refine tO [3,2,42] W<|aG W W W (auJ a) j W<|tR [2,47] W<|aE k W W<|tR [48] W<|az W W W (by omega) ?_;rw[v];refine tR [2,49] W<|az W W W (by omega)<|tL [] W<|again (k':=b.length-(a+1)) (by omega) ⟨a+1,_,rfl,by omega,rfl⟩ W W
 ·refine TC.exit ?_;have g:a=b.length:=by grind
  subst g;rw[avo];refine tC [2] W<|TC.ret ⟨_,W,[_],W,W⟩
theorem mn(b:bj)(x:uP b):bP b<=1000000000->PT prog 40 [.agg b.cells] (·= [iN (bP b)]):=by
 induction x with
 | @mk c d I J K y o L N z=>
  intro A;have s:=qL (.mk c d);simp only[bj.vars,bj.au]at s;have B: ∀e∈d,PT prog 55 [.agg e.cells] (·= [iN (qP e)]):= λe i=>by
   have O:=kh (avw (f:=qP) i);refine C5 e (o e i).1 (o e i).2.1 (o e i).2.2 (by omega) (y e i) λw t=>z e i w t ?_
   have C:=kh (avw (f:=gb) t);have P:=jD e;rw[oC]at C;omega
  rw[s]at A⊢;rw[bj.aC];simp only[bj.vars,bj.au];refine PI (CT.ob func40 W ntmps40 W λQ R=> ?_);refine tO [2,2,2,14] W<|bp W W W ?_;rw[bD];refine tL [] W<|Rn [nN 11 0,nN 10 c.length,nD 9 (.sl (aI c)),nN 3 (aU (c.take 0)),nD 1 (.bm [.sl (aI c),.sl (d.map aB.cells)] 0)] [] W W<|tC [3] W<|TC.lp (λk l=> ∃(a:Nat) (m:List (Nat×List M)),l=⟨[nN 11 a,nN 10 c.length,nD 9 (.sl (aI c)),nN 3 (aU (c.take a)),nD 1 (.bm [.sl (aI c),.sl (d.map aB.cells)] 0)],m,[]⟩/\a<=c.length/\k=c.length-a) c.length _
   ⟨0,_,rfl,by omega,rfl⟩ W ?_
  rintro k l ⟨a,m,rfl,D,rfl⟩;refine tC [2] W<|TC.cond W (λp=> ?_) (λp=> ?_)
  ·have g:a<c.length:=by grind
   have h:=ez g;have u:=au1 g;have G:=mG c (a+1);generalize c[a]=n at h u;have j:=qp (c.take a) n;rw[<-u]at j;rw[n.aC]at h;refine tC [3] W ?_;cases v:n.last with
   |true=>
    rw[v]at h j;simp only[awr]at j;have q:((aU (c.take a):Nat):Int)+1=((aU (c.take (a+1)):Nat):Int):=by omega
    refine tO [2,17] W<|aG W W W (auJ a) h W<|tR [2,1,2,22] W<|az W W W (by omega) ?_;rw[q];refine tR [2,23] W<|az W W W (by omega)<|tL [] W<|again (k':=c.length-(a+1)) (by omega) ⟨a+1,_,rfl,by omega,rfl⟩ W W
   |false=>
    rw[v]at h j;simp only[avS,awi,av9]at j;refine tO [2,17] W<|aG W W W (auJ a) h W<|tR [2,0,2,23] W<|az W W W (by omega)<|tL [] W<|again (k':=c.length-(a+1)) (by omega) ⟨a+1,_,rfl,by omega,rfl⟩ W (kc W (kc W (kc W (kc (by rw[j];rfl) W))))
  refine TC.exit ?_;have g:a=c.length:=by grind
  subst g;rw[avo];have H:(d.map aB.cells).length=d.length:=by simp
  refine tO [2,26] W<|bp W W W ?_;rw[H];refine tL [] W<|Rn [nN 23 0,nN 22 d.length,nD 21 (.sl (d.map aB.cells)),nN 3 (aU c+aS ((d.take 0).map qP))] [] W W<|tC [3] W<|TC.lp (λk l=> ∃(a:Nat) (m:List (Nat×List M)),l=⟨[nN 23 a,nN 22 d.length,nD 21 (.sl (d.map aB.cells)),nN 3 (aU c+aS ((d.take a).map qP))],m,[]⟩/\a<=d.length/\k=d.length-a) d.length _
   ⟨0,_,rfl,by omega,rfl⟩ W ?_
  rintro k l ⟨a,m,rfl,D,rfl⟩;refine tC [2] W<|TC.cond W (λp=> ?_) (λp=> ?_)
  ·have g:a<d.length:=by grind
   have h:(d.map aB.cells)[((a:Nat):Int).toNat]?=some d[a].cells:=by simp[g]
   have r:=B _ (avb g);obtain⟨E,G⟩:=gx qP g;generalize d[a]=e at h r E;obtain⟨S,T,U,V,X,Y,Z,a7,a8,a9,b0,b1,b2,b3,b4,b5,F⟩:=qv e.len;rw[F]at h r;have q:((aU c+aS ((d.take a).map qP):Nat):Int)+((qP e:Nat):Int)=((aU c+aS ((d.take (a+1)).map qP):Nat):Int):=by omega
   refine tO [3,2,29] W<|aG W W W (auJ a) h W<|tR [2,33] W<|aE r W W<|tR [34] W<|az W W W (by omega) ?_;rw[q];refine tR [2,35] W<|az W W W (by omega)<|tL [] W<|again (k':=d.length-(a+1)) (by omega) ⟨a+1,_,rfl,by omega,rfl⟩ W W
  ·refine TC.exit ?_;have g:a=d.length:=by grind
   subst g;rw[avo];refine tC [2] W<|TC.ret ⟨_,W,[_],W,W⟩
end Go.Proofs.Sz
namespace Go.Sm
open Go.Mt
def sg(o:Option Nat):Int:=match o with
 |some i=>(i:Int)
 |none=> -1
theorem rr{b:Type}{l:List b}{p:b->Bool}{i:Nat}(hi:i<l.length)(h:p l[i]=true)(d: ∀(a:Nat) (c:a<l.length),a<i->p l[a]=false):sg (l.findIdx? p)=(i:Int):=by
 have:l.findIdx? p=some i:=by
  rw[avq];exact⟨hi,h,λa c=>by grind⟩
 rw[this];rfl
theorem pz{b:Type}{l:List b}{p:b->Bool}(e: ∀(a:Nat) (c:a<l.length),p l[a]=false):sg (l.findIdx? p)= -1:=by
 have:l.findIdx? p=none:=by
  rw[av4];intro d f;obtain⟨a,c,rfl⟩:=List.getElem_of_mem f;exact e a c
 rw[this];rfl
theorem ru(l:List Nm)(x:Nm):lJ l x=sg (l.findIdx? λy=>decide (y=x)):=rfl
theorem J'(l:List Nm)(x:Nm): -1<=lJ l x/\lJ l x<l.length:=by
 rw[ru];cases a:l.findIdx? λb=>decide (b=x)with
 |none=>simp only[sg];omega
 |some c=>rw[avq]at a;obtain⟨d,_⟩:=a;simp only[sg];omega
theorem Ka(l:List Nm)(x:Nm):mV l x=decide (lJ l x>=0):=by
 rw[ru];cases a:l.findIdx? λb=>decide (b=x)with
 |none=>
  rw[av4]at a;have:mV l x=false:=by
   rw[<-avX];intro e;have:=a _ (py.1 e);simp at this
  rw[this];simp[sg]
 |some c=>
  rw[avq]at a;obtain⟨d,f,_⟩:=a;have:mV l x=true:=py.2 (by grind);rw[this];simp[sg]
theorem C6{n:Int}(h: -2147483648<=n/\n<=2147483647):IntKind.i32.wrap n=n:=by
 have:IntKind.i32.wrap n=if n%4294967296>=2147483648 then n%4294967296-4294967296 else n%4294967296:=by
  simp[IntKind.wrap,IntKind.bits,IntKind.signed]
 rw[this];split<;>omega
end Go.Sm
namespace Go.Proofs.Sz
open Go.Mt Go.Sm Go.Proofs
open Tryz
theorem ta(l:List Nd)(e:Nat)[bz prog e](h:List D)(p:Nd->Bool)(u:l.length<=1000000)(s: ∀j∈l,PT prog e (.agg j.cells::h) (·= [.bool (p j)])):PT prog 38 [.sl (l.map Nd.cells),.fn e h] (·= [.int .i64 (sg (l.findIdx? p))]):=by
 refine PI (CT.ob func38 W ntmps38 W λv w=> ?_);refine tO [2,2,11] W<|bp W W W ?_;rw[au8];refine tL [3] W<|TC.lp (λk m=> ∃a:Nat,m=⟨[nI 8 a,nI 7 (l.length:Nat),nD 0 (.sl (l.map Nd.cells)),nD 1 (.fn e h)],[],[]⟩/\a<=l.length/\k=l.length-a/\(∀(c:Nat) (d:c<l.length),c<a->p l[c]=false)) l.length _
  ⟨0,rfl,by omega,rfl,by grind⟩ W ?_
 rintro k m ⟨a,rfl,x,rfl,n⟩;refine tC [2] W<|TC.cond W (λt=> ?_) (λt=> ?_)
 ·have f:a<l.length:=by grind
  have o:(l.map Nd.cells)[((a:Nat):Int).toNat]?=some l[a].cells:=by simp[f]
  have i:=s _ (avb f);obtain⟨b,q⟩: ∃b,b=p l[a]:=⟨_,rfl⟩;rw[<-q]at i;unfold Nd.cells at o i;refine tO [3,2,2,18] W<|aG W W W (auJ a) o W<|tR [20] W<|v_ i W W W<|tL [] W<|TC.cond W (λr=> ?_) (λr=> ?_)
  ·refine tC [2] W<|TC.ret ⟨_,W,[_],W,by rw[rr f (q.symm.trans r) (λc d g=>n c d g)]⟩
  ·refine tO [2,22] W<|az W W W (by omega)<|tL [] W<|again (k':=l.length-(a+1)) (by omega) ⟨a+1,rfl,by omega,rfl,?_⟩ W W;intro c d g;rcases avB.1 g with y|rfl
   ·grind
   ·grind
 ·refine TC.exit ?_;have f:a=l.length:=by grind
  refine tC [2] W<|TC.ret ⟨_,W,[_],W,by rw[pz (λc d=>n c d (by omega))]⟩
theorem nh(l:List En)(e:Nat)[bz prog e](h:List D)(p:En->Bool)(u:l.length<=1000000)(s: ∀j∈l,PT prog e (.agg j.cells::h) (·= [.bool (p j)])):PT prog 78 [.sl (l.map En.cells),.fn e h] (·= [.int .i64 (sg (l.findIdx? p))]):=by
 refine PI (CT.ob func78 W ntmps78 W λv w=> ?_);refine tO [2,2,11] W<|bp W W W ?_;rw[au8];refine tL [3] W<|TC.lp (λk m=> ∃a:Nat,m=⟨[nI 8 a,nI 7 (l.length:Nat),nD 0 (.sl (l.map En.cells)),nD 1 (.fn e h)],[],[]⟩/\a<=l.length/\k=l.length-a/\(∀(c:Nat) (d:c<l.length),c<a->p l[c]=false)) l.length _
  ⟨0,rfl,by omega,rfl,by grind⟩ W ?_
 rintro k m ⟨a,rfl,x,rfl,n⟩;refine tC [2] W<|TC.cond W (λt=> ?_) (λt=> ?_)
 ·have f:a<l.length:=by grind
  have o:(l.map En.cells)[((a:Nat):Int).toNat]?=some l[a].cells:=by simp[f]
  have i:=s _ (avb f);obtain⟨b,q⟩: ∃b,b=p l[a]:=⟨_,rfl⟩;rw[<-q]at i;unfold En.cells at o i;refine tO [3,2,2,18] W<|aG W W W (auJ a) o W<|tR [20] W<|v_ i W W W<|tL [] W<|TC.cond W (λr=> ?_) (λr=> ?_)
  ·refine tC [2] W<|TC.ret ⟨_,W,[_],W,by rw[rr f (q.symm.trans r) (λc d g=>n c d g)]⟩
  ·refine tO [2,22] W<|az W W W (by omega)<|tL [] W<|again (k':=l.length-(a+1)) (by omega) ⟨a+1,rfl,by omega,rfl,?_⟩ W W;intro c d g;rcases avB.1 g with y|rfl
   ·grind
   ·grind
 ·refine TC.exit ?_;have f:a=l.length:=by grind
  refine tC [2] W<|TC.ret ⟨_,W,[_],W,by rw[pz (λc d=>n c d (by omega))]⟩
theorem tK(l:List bh)(e:Nat)[bz prog e](h:List D)(p:bh->Bool)(u:l.length<=1000000)(s: ∀j∈l,PT prog e (.agg j.cells::h) (·= [.bool (p j)])):PT prog 129 [.sl (l.map bh.cells),.fn e h] (·= [.int .i64 (sg (l.findIdx? p))]):=by
 refine PI (CT.ob func129 W ntmps129 W λv w=> ?_);refine tO [2,2,11] W<|bp W W W ?_;rw[au8];refine tL [3] W<|TC.lp (λk m=> ∃a:Nat,m=⟨[nI 8 a,nI 7 (l.length:Nat),nD 0 (.sl (l.map bh.cells)),nD 1 (.fn e h)],[],[]⟩/\a<=l.length/\k=l.length-a/\(∀(c:Nat) (d:c<l.length),c<a->p l[c]=false)) l.length _
  ⟨0,rfl,by omega,rfl,by grind⟩ W ?_
 rintro k m ⟨a,rfl,x,rfl,n⟩;refine tC [2] W<|TC.cond W (λt=> ?_) (λt=> ?_)
 ·have f:a<l.length:=by grind
  have o:(l.map bh.cells)[((a:Nat):Int).toNat]?=some l[a].cells:=by simp[f]
  have i:=s _ (avb f);obtain⟨b,q⟩: ∃b,b=p l[a]:=⟨_,rfl⟩;rw[<-q]at i;rw[bh.aC]at o i;refine tO [3,2,2,18] W<|aG W W W (auJ a) o W<|tR [20] W<|v_ i W W W<|tL [] W<|TC.cond W (λr=> ?_) (λr=> ?_)
  ·refine tC [2] W<|TC.ret ⟨_,W,[_],W,by rw[rr f (q.symm.trans r) (λc d g=>n c d g)]⟩
  ·refine tO [2,22] W<|az W W W (by omega)<|tL [] W<|again (k':=l.length-(a+1)) (by omega) ⟨a+1,rfl,by omega,rfl,?_⟩ W W;intro c d g;rcases avB.1 g with y|rfl
   ·grind
   ·grind
 ·refine TC.exit ?_;have f:a=l.length:=by grind
  refine tC [2] W<|TC.ret ⟨_,W,[_],W,by rw[pz (λc d=>n c d (by omega))]⟩
theorem tM(l:List Va)(e:Nat)[bz prog e](h:List D)(p:Va->Bool)(u:l.length<=1000000)(s: ∀j∈l,PT prog e (.agg j.cells::h) (·= [.bool (p j)])):PT prog 137 [.sl (l.map Va.cells),.fn e h] (·= [.int .i64 (sg (l.findIdx? p))]):=by
 refine PI (CT.ob func137 W ntmps137 W λv w=> ?_);refine tO [2,2,11] W<|bp W W W ?_;rw[au8];refine tL [3] W<|TC.lp (λk m=> ∃a:Nat,m=⟨[nI 8 a,nI 7 (l.length:Nat),nD 0 (.sl (l.map Va.cells)),nD 1 (.fn e h)],[],[]⟩/\a<=l.length/\k=l.length-a/\(∀(c:Nat) (d:c<l.length),c<a->p l[c]=false)) l.length _
  ⟨0,rfl,by omega,rfl,by grind⟩ W ?_
 rintro k m ⟨a,rfl,x,rfl,n⟩;refine tC [2] W<|TC.cond W (λt=> ?_) (λt=> ?_)
 ·have f:a<l.length:=by grind
  have o:(l.map Va.cells)[((a:Nat):Int).toNat]?=some l[a].cells:=by simp[f]
  have i:=s _ (avb f);obtain⟨b,q⟩: ∃b,b=p l[a]:=⟨_,rfl⟩;rw[<-q]at i;rw[Va.aC]at o i;refine tO [3,2,2,18] W<|aG W W W (auJ a) o W<|tR [20] W<|v_ i W W W<|tL [] W<|TC.cond W (λr=> ?_) (λr=> ?_)
  ·refine tC [2] W<|TC.ret ⟨_,W,[_],W,by rw[rr f (q.symm.trans r) (λc d g=>n c d g)]⟩
  ·refine tO [2,22] W<|az W W W (by omega)<|tL [] W<|again (k':=l.length-(a+1)) (by omega) ⟨a+1,rfl,by omega,rfl,?_⟩ W W;intro c d g;rcases avB.1 g with y|rfl
   ·grind
   ·grind
 ·refine TC.exit ?_;have f:a=l.length:=by grind
  refine tC [2] W<|TC.ret ⟨_,W,[_],W,by rw[pz (λc d=>n c d (by omega))]⟩
theorem Be(d:Nd)(x:Nm):PT prog 39 [.agg d.cells,.bm [.str x] 0] (·= [.bool (decide (d.name=x))]):=by
 unfold Nd.cells;refine PI (CT.ob func39 W ntmps39 W λa b=> ?_);refine tC [2,2] W<|TC.ret ⟨_,W,[_],W,W⟩
theorem wy(P:Pg)(x:Nm)(a:P.nodes.length<=1000000):PT prog 25 [.agg P.cells,.str x] (·= [.int .i64 (sg (cZ P.nodes x))]):=by
 refine PI (CT.ob func25 W ntmps25 W λb c=> ?_);refine tO [2,2,12] W<|aE (ta P.nodes 39 [.bm [.str x] 0] (λd=>decide (d.name=x)) a (λd _=>Be d x)) W W<|tL [] W<|TC.ret ⟨_,rfl,[_],rfl,rfl⟩
theorem Bf(d:En)(x:Nm):PT prog 79 [.agg d.cells,.bm [.str x] 0] (·= [.bool (decide (d.name=x))]):=by
 unfold En.cells;refine PI (CT.ob func79 W ntmps79 W λa b=> ?_);refine tC [2,2] W<|TC.ret ⟨_,W,[_],W,W⟩
theorem wz(l:List En)(x:Nm)(a:l.length<=1000000):PT prog 49 [.sl (l.map En.cells),.str x] (·= [.int .i64 (sg (l.findIdx? λe=>decide (e.name=x)))]):=by
 refine PI (CT.ob func49 W ntmps49 W λb c=> ?_);refine tO [2,2,11] W<|aE (nh l 79 [.bm [.str x] 0] (λd=>decide (d.name=x)) a (λd _=>Bf d x)) W W<|tL [] W<|TC.ret ⟨_,rfl,[_],rfl,rfl⟩
theorem Kb(d:bh)(x:Nm):PT prog 130 [.agg d.cells,.bm [.str x] 0] (·= [.bool (decide (d.name=x))]):=by
 rw[bh.aC];refine PI (CT.ob func130 W ntmps130 W λa b=> ?_);refine tC [2,2] W<|TC.ret ⟨_,W,[_],W,W⟩
theorem HA(l:List bh)(x:Nm)(a:l.length<=1000000):PT prog 94 [.sl (l.map bh.cells),.str x] (·= [.int .i64 (sg (nH l x))]):=by
 refine PI (CT.ob func94 W ntmps94 W λb c=> ?_);refine tO [2,2,11] W<|aE (tK l 130 [.bm [.str x] 0] (λd=>decide (d.name=x)) a (λd _=>Kb d x)) W W<|tL [] W<|TC.ret ⟨_,rfl,[_],rfl,rfl⟩
theorem IS(d:Va)(x:Nm):PT prog 138 [.agg d.cells,.bm [.str x] 0] (·= [.bool (decide (d.name=x))]):=by
 rw[Va.aC];refine PI (CT.ob func138 W ntmps138 W λa b=> ?_);refine tC [2,2] W<|TC.ret ⟨_,W,[_],W,W⟩
theorem Kc(l:List Va)(x:Nm)(a:l.length<=1000000):PT prog 119 [.sl (aI l),.str x] (·= [.int .i64 (sg (f_ l x))]):=by
 refine PI (CT.ob func119 W ntmps119 W λb c=> ?_);refine tO [2,2,11] W<|aE (tM l 138 [.bm [.str x] 0] (λd=>decide (d.name=x)) a (λd _=>IS d x)) W W<|tL [] W<|TC.ret ⟨_,rfl,[_],rfl,rfl⟩
theorem li{l:List Nm}{i:Nat}(h:i<l.length):(dJ l)[((i:Nat):Int).toNat]?=some [.str l[i]]:=by grind
theorem BG(l:List Nm)(x:Nm)(k:l.length<=1000000):PT prog 117 [.sl (dJ l),.str x] (·= [.int .i64 (lJ l x)]):=by
 refine PI (CT.ob func117 W ntmps117 W λm n=> ?_);refine tO [2,2,11] W<|bp W W W ?_;rw[au8];refine tL [3] W<|TC.lp (λf g=> ∃a:Nat,g=⟨[nI 8 a,nI 7 (l.length:Nat),nD 0 (.sl (dJ l)),nD 1 (.str x)],[],[]⟩/\a<=l.length/\f=l.length-a/\(∀(b:Nat) (c:b<l.length),b<a->decide (l[b]=x)=false)) l.length _
  ⟨0,rfl,by omega,rfl,by grind⟩ W ?_
 rintro f g ⟨a,rfl,o,rfl,h⟩;refine tC [2] W<|TC.cond W (λj=> ?_) (λj=> ?_)
 ·have e:a<l.length:=by grind
  refine tO [3,2,2,18] W<|aG W W W (auJ a) (li e) W<|tL [] W<|TC.cond W (λi=> ?_) (λi=> ?_)
  ·refine tC [2] W<|TC.ret ⟨_,W,[_],W,by rw[ru,rr e (au5 (auV i).symm) (λb c d=>h b c d)]⟩
  ·refine tO [2,22] W<|az W W W (by omega)<|tL [] W<|again (k':=l.length-(a+1)) (by omega) ⟨a+1,rfl,by omega,rfl,?_⟩ W W;intro b c d;rcases avB.1 d with p|rfl
   ·grind
   ·grind
 ·refine TC.exit ?_;have e:a=l.length:=by grind
  refine tC [2] W<|TC.ret ⟨_,W,[_],W,by rw[ru,pz (λb c=>h b c (by omega))]⟩
theorem zR(l:List Nm)(x:Nm)(k:l.length<=1000000):PT prog 96 [.sl (dJ l),.str x] (·= [.int .i32 (lJ l x)]):=by
 refine PI (CT.ob func96 W ntmps96 W λm n=> ?_);refine tO [2,2,12] W<|bp W W W ?_;rw[au8];refine tL [3] W<|TC.lp (λg h=> ∃a:Nat,h=⟨[nI 9 a,nI 8 (l.length:Nat),nD 7 (.sl (dJ l)),nD 1 (.str x)],[],[]⟩/\a<=l.length/\g=l.length-a/\(∀(b:Nat) (c:b<l.length),b<a->decide (l[b]=x)=false)) l.length _
  ⟨0,rfl,by omega,rfl,by grind⟩ W ?_
 rintro g h ⟨a,rfl,o,rfl,i⟩;refine tC [2] W<|TC.cond W (λj=> ?_) (λj=> ?_)
 ·have e:a<l.length:=by grind
  refine tO [3,2,16] W<|aG W W W (auJ a) (li e) W<|tL [2] W<|TC.cond W (λf=> ?_) (λf=> ?_)
  ·refine tO [2,22] W<|zm W W ?_;rw[C6 (by omega)];refine tL [] W<|TC.ret ⟨_,W,[_],W,by rw[ru,rr e f (λb c d=>i b c d)]⟩
  ·refine tO [2,23] W<|az W W W (by omega)<|tL [] W<|again (k':=l.length-(a+1)) (by omega) ⟨a+1,rfl,by omega,rfl,?_⟩ W W;intro b c d;rcases avB.1 d with p|rfl
   ·grind
   ·exact f
 ·refine TC.exit ?_;have e:a=l.length:=by grind
  refine tC [2] W<|TC.ret ⟨_,W,[_],W,by rw[ru,pz (λb c=>i b c (by omega))]⟩
theorem pb(l:List Nm)(x:Nm)(a:l.length<=1000000):PT prog 97 [.sl (dJ l),.str x] (·= [.bool (mV l x)]):=by
 rw[Ka];refine PI (CT.ob func97 W ntmps97 W λb c=> ?_);refine tO [2,2,11] W<|aE (BG l x a) W W<|tL [] W<|TC.ret ⟨_,W,[_],W,W⟩
end Go.Proofs.Sz
namespace Go.Sm
open Go.Mt
theorem BH{a:Type}(l:List a)(p:a->Bool):(l.findIdx? p=none/\l.find? p=none)\/ ∃(i:Nat) (h:i<l.length),l.findIdx? p=some i/\l.find? p=some l[i]:=by
 cases h:l.findIdx? p with
 |none=>
  refine .inl ⟨W,?_⟩;rw[av4]at h;rw[List.find?_eq_none];intro c d;rw[h c d];simp
 |some i=>
  rw[avq]at h;obtain⟨b,e,g⟩:=h;refine .inr ⟨i,b,W,?_⟩;rw[List.find?_eq_some_iff_getElem];exact⟨e,i,b,W,λf j=>by grind⟩
def lF(tk c n:Int):Bool:=if tk=2 then true else if tk=1 then(n==0||n==1)else if tk=3 then(decide (n>=0)&&decide (n<c))else false
structure qw(en:List En):Prop where
 n:en.length<=1000000
 c: ∀e∈en,e.de.length<=1000000
theorem yC{n:Int}(h: -2147483648<=n/\n<=2147483647):IntKind.i64.wrap n=n:=IntWalk.i64_in _ ⟨by omega,by omega⟩
theorem wA{en:List En}(h:qw en)(tk:Int)(a:Nm):(fq en tk a).length<=1000000:=by
 unfold fq;split
 ·simp
 ·split
  ·split
   ·rename_i e b;exact h.c _ (axf b)
   ·simp
  ·simp
end Go.Sm
namespace Go.Proofs.Sz
open Go.Mt Go.Sm Go.Proofs
open Tryz
theorem Eg{l:List En}{i:Nat}(h:i<l.length):(l.map En.cells)[((i:Nat):Int).toNat]?=some l[i].cells:=by simp[h]
theorem jd(b:Bool):PT prog 139 [.bool b] (·= [.int .i32 (lD b)]):=by
 refine PI (CT.ob func139 W ntmps139 W λa c=> ?_);refine tC [2,2] W ?_;cases b with
 |true=>
  refine tC [1,2] W<|TC.ret ⟨_,W,[_],W,W⟩
 |false=>
  refine tC [0,2] W<|TC.ret ⟨_,W,[_],W,W⟩
theorem NJ(op a:Int):PT prog 121 [.int .u8 op,.int .i32 a] (·= [.int .i32 (C1 op a)]):=by
 refine PI (CT.ob func121 W ntmps121 W λf g=> ?_);refine tC [2,2,3] W ?_;by_cases b:op=1
 ·have d:(op==1)=true:=by simp[b]
  refine tO [2,11] W<|aQ d W W W W<|tR [1,2,14] W<|aE (jd _) W W<|tL [] W<|TC.ret ⟨_,W,[_],W,by simp[C1,b]⟩
 have d:(op==1)=false:=by simp[b]
 refine tO [2,11] W<|aQ d W W W W<|tL [0] W ?_;by_cases c:op=2
 ·have e:(op==2)=true:=by simp[c]
  refine tO [2,16] W<|aQ e W W W W<|tR [1,2,18] W<|Nz W W<|tL [] W<|TC.ret ⟨_,W,[_],W,by simp[C1,c,i32]⟩
 have e:(op==2)=false:=by simp[c]
 refine tO [2,16] W<|aQ e W W W W<|tL [0,2] W<|TC.ret ⟨_,W,[_],W,by simp[C1,b,c]⟩
theorem BI(op a b:Int)(h:op=6\/op=7):PT prog 140 [.int .u8 op,.int .i32 a,.int .i32 b] (·= [.int .i32 (jE op a b)]):=by
 refine PI (CT.ob func140 W ntmps140 W λk l=> ?_);refine tC [2,3] W ?_;by_cases c:b=0
 ·have d:(b==0)=true:=by simp[c]
  refine tO [2,13] W<|aQ d W W W W<|tL [1,2] W<|TC.ret ⟨_,W,[_],W,by rcases h with rfl|rfl<;>simp[jE,c]⟩
 have d:(b==0)=false:=by simp[c]
 refine tO [2,13] W<|aQ d W W W W<|tL [0] W ?_;by_cases e:a= -2147483648
 ·have i:(a== -2147483648)=true:=by simp[e]
  by_cases f:b= -1
  ·have j:(b== -1)=true:=by simp[f]
   refine tO [2,16] W<|aQ i W W W W<|tR [19] W ?_
   first|refine ax W W ?_|(refine av W ?_;(refine aQ j W W W W ?_))
   refine tL [1] W ?_;rcases h with rfl|rfl
   ·have g:((6:Int)==6)=true:=rfl;refine tC [2,1,2] W<|TC.ret ⟨_,W,[_],W,by simp[jE,e,f]⟩
   ·have g:((7:Int)==6)=false:=rfl;refine tC [2,0,2] W<|TC.ret ⟨_,W,[_],W,by simp[jE,e,f]⟩
  ·have j:(b== -1)=false:=by simp[f]
   refine tO [2,16] W<|aQ i W W W W<|tR [19] W ?_
   first|refine ax W W ?_|(refine av W ?_;(refine aQ j W W W W ?_))
   refine tL [0] W ?_;rcases h with rfl|rfl
   ·have g:((6:Int)==6)=true:=rfl;refine tO [2,1,2,29] W<|JM W W W d<|tL [] W<|TC.ret ⟨_,W,[_],W,by simp[jE,c,f,i32]⟩
   ·have g:((7:Int)==6)=false:=rfl;refine tO [2,0,2,32] W<|pJ W W W d<|tL [] W<|TC.ret ⟨_,W,[_],W,by simp[jE,c,f,i32]⟩
 ·have i:(a== -2147483648)=false:=by simp[e]
  refine tO [2,16] W<|aQ i W W W W<|tL [0] W ?_;rcases h with rfl|rfl
  ·have g:((6:Int)==6)=true:=rfl;refine tO [2,1,2,29] W<|JM W W W d<|tL [] W<|TC.ret ⟨_,W,[_],W,by simp[jE,c,e,i32]⟩
  ·have g:((7:Int)==6)=false:=rfl;refine tO [2,0,2,32] W<|pJ W W W d<|tL [] W<|TC.ret ⟨_,W,[_],W,by simp[jE,c,e,i32]⟩
theorem IT(op a b:Int)(o:op≠3/\op≠4/\op≠5/\op≠6/\op≠7/\op≠8/\op≠9/\op≠10/\op≠12):PT prog 141 [.int .u8 op,.int .i32 a,.int .i32 b] (·= [.int .i32 (jE op a b)]):=by
 obtain⟨p,q,r,s,t,u,v,w,x⟩:=o;refine PI (CT.ob func141 W ntmps141 W λy z=> ?_);refine tC [2,2,3,3,3,3,3,3] W ?_;by_cases e:op=16
 ·have j:(op==16)=true:=by simp[e]
  refine tO [2,13] W<|aQ j W W W W<|tL [1] W<|TC.exit ?_;by_cases d:a>b
  ·have c:=au5 d;refine tO [2,24] W<|aQ c W W W W<|tL [1,2] W<|TC.ret ⟨_,W,[_],W,by rw[e,show jE 16 a b=lD (decide (b<=a))from rfl,au5 (by omega)];rfl⟩
  ·have c:=avc d;refine tO [2,24] W<|aQ c W W W W<|tR [0,2,28] W<|aE (jd _) W W<|tL [] W<|TC.ret ⟨_,W,[_],W,by rw[e,show jE 16 a b=lD (decide (b<=a))from rfl,show decide (b<=a)=(a==b)from by grind]⟩
 have j:(op==16)=false:=by simp[e]
 refine tO [2,13] W<|aQ j W W W W<|tL [0] W ?_;by_cases g:op=11
 ·have k:(op==11)=true:=by simp[g]
  refine tO [2,15] W<|aQ k W W W W<|tL [1] W<|TC.exit<|tO [2,28] W<|aE (jd _) W W<|tL [] W<|TC.ret ⟨_,W,[_],W,by rw[g];rfl⟩
 have k:(op==11)=false:=by simp[g]
 refine tO [2,15] W<|aQ k W W W W<|tL [0] W ?_;by_cases f:op=14
 ·have l:(op==14)=true:=by simp[f]
  refine tO [2,17] W<|aQ l W W W W<|tL [1] W<|TC.exit ?_;by_cases d:a=b
  ·have c:(a==b)=true:=by simp[d]
   refine tO [2,31] W<|aQ c W W W W<|tL [1,2] W<|TC.ret ⟨_,W,[_],W,by rw[f,show jE 14 a b=lD (decide (a<=b))from rfl,au5 (by omega)];rfl⟩
  ·have c:(a==b)=false:=by simp[d]
   refine tO [2,31] W<|aQ c W W W W<|tR [0,2,35] W<|aE (jd _) W W<|tL [] W<|TC.ret ⟨_,W,[_],W,by rw[f,show jE 14 a b=lD (decide (a<=b))from rfl,show decide (a<=b)=decide (a<b)from by grind]⟩
 have l:(op==14)=false:=by simp[f]
 refine tO [2,17] W<|aQ l W W W W<|tL [0] W ?_;by_cases h:op=13
 ·have m:(op==13)=true:=by simp[h]
  refine tO [2,19] W<|aQ m W W W W<|tL [1] W<|TC.exit<|tO [2,35] W<|aE (jd _) W W<|tL [] W<|TC.ret ⟨_,W,[_],W,by rw[h];rfl⟩
 have m:(op==13)=false:=by simp[h]
 refine tO [2,19] W<|aQ m W W W W<|tL [0] W ?_;by_cases i:op=15
 ·have n:(op==15)=true:=by simp[i]
  refine tO [2,21] W<|aQ n W W W W<|tL [1] W<|TC.exit<|tO [2,39] W<|aE (jd _) W W<|tL [] W<|TC.ret ⟨_,W,[_],W,by rw[i];rfl⟩
 have n:(op==15)=false:=by simp[i]
 refine tO [2,21] W<|aQ n W W W W<|tL [0] W<|TC.exit<|tC [2] W<|TC.ret ⟨_,W,[_],W,by simp[jE,p,q,r,s,t,u,v,w,x,e,g,f,h,i]⟩
theorem L_(op a b:Int):PT prog 122 [.int .u8 op,.int .i32 a,.int .i32 b] (·= [.int .i32 (jE op a b)]):=by
 refine PI (CT.ob func122 W ntmps122 W λw x=> ?_);refine tC [2,2,3] W ?_;by_cases g:op=3
 ·have n:(op==3)=true:=by simp[g]
  refine tO [2,13] W<|aQ n W W W W<|tR [1,2,16] W<|dY W W W W<|tL [] W<|TC.ret ⟨_,W,[_],W,by rw[g];rfl⟩
 have n:(op==3)=false:=by simp[g]
 refine tO [2,13] W<|aQ n W W W W<|tL [0] W ?_;by_cases h:op=4
 ·have o:(op==4)=true:=by simp[h]
  refine tO [2,18] W<|aQ o W W W W<|tR [1,2,21] W<|dY W W W W<|tL [] W<|TC.ret ⟨_,W,[_],W,by rw[h];rfl⟩
 have o:(op==4)=false:=by simp[h]
 refine tO [2,18] W<|aQ o W W W W<|tL [0] W ?_;by_cases i:op=5
 ·have p:(op==5)=true:=by simp[i]
  refine tO [2,23] W<|aQ p W W W W<|tR [1,2,26] W<|dY W W W W<|tL [] W<|TC.ret ⟨_,W,[_],W,by rw[i];rfl⟩
 have p:(op==5)=false:=by simp[i]
 refine tO [2,23] W<|aQ p W W W W<|tL [0] W ?_;by_cases j:op=6
 ·have q:(op==6)=true:=by simp[j]
  refine tO [2,28] W<|aQ q W W W W<|tR [1,1,2,33] W<|aE (BI op a b (.inl j)) W W<|tL [] W<|TC.ret ⟨_,W,[_],W,W⟩
 have q:(op==6)=false:=by simp[j]
 refine tO [2,28] W<|aQ q W W W W<|tL [0] W ?_;by_cases k:op=7
 ·have r:(op==7)=true:=by simp[k]
  refine tO [2,29] W<|aQ r W W W W<|tR [1,2,33] W<|aE (BI op a b (.inr k)) W W<|tL [] W<|TC.ret ⟨_,W,[_],W,W⟩
 have r:(op==7)=false:=by simp[k]
 refine tO [2,29] W<|aQ r W W W W<|tL [0] W ?_;by_cases e:op=8
 ·have s:(op==8)=true:=by simp[e]
  refine tO [2,35] W<|aQ s W W W W<|tL [1] W ?_;by_cases d:a=0
  ·have c:(a !=0)=false:=by simp[d]
   refine tO [2,37] W<|aQ c W W W W<|tR [42] W<|aE (jd _) W W<|tL [] W<|TC.ret ⟨_,W,[_],W,by rw[e];simp[jE,c,d]⟩
  ·have c:(a !=0)=true:=by simp[d]
   refine tO [2,37] W<|aQ c W W W W<|tR [42] W<|aE (jd _) W W<|tL [] W<|TC.ret ⟨_,W,[_],W,by rw[e];simp[jE,c,d]⟩
 have s:(op==8)=false:=by simp[e]
 refine tO [2,35] W<|aQ s W W W W<|tL [0] W ?_;by_cases f:op=9
 ·have t:(op==9)=true:=by simp[f]
  refine tO [2,44] W<|aQ t W W W W<|tL [1] W ?_;by_cases d:a=0
  ·have c:(a !=0)=false:=by simp[d]
   refine tO [2,46] W<|aQ c W W W W<|tR [51] W<|aE (jd _) W W<|tL [] W<|TC.ret ⟨_,W,[_],W,by rw[f];simp[jE,c,d]⟩
  ·have c:(a !=0)=true:=by simp[d]
   refine tO [2,46] W<|aQ c W W W W<|tR [51] W<|aE (jd _) W W<|tL [] W<|TC.ret ⟨_,W,[_],W,by rw[f];simp[jE,c,d]⟩
 have t:(op==9)=false:=by simp[f]
 refine tO [2,44] W<|aQ t W W W W<|tL [0] W ?_;by_cases l:op=12
 ·have u:(op==12)=true:=by simp[l]
  refine tO [2,53] W<|aQ u W W W W<|tR [1,1,2,58] W<|aE (jd _) W W<|tL [] W<|TC.ret ⟨_,W,[_],W,by rw[l];rfl⟩
 have u:(op==12)=false:=by simp[l]
 refine tO [2,53] W<|aQ u W W W W<|tL [0] W ?_;by_cases m:op=10
 ·have v:(op==10)=true:=by simp[m]
  refine tO [2,54] W<|aQ v W W W W<|tR [1,2,58] W<|aE (jd _) W W<|tL [] W<|TC.ret ⟨_,W,[_],W,by rw[m];rfl⟩
 have v:(op==10)=false:=by simp[m]
 refine tO [2,54] W<|aQ v W W W W<|tR [0,2,62] W<|aE (IT op a b ⟨g,h,i,j,k,e,f,m,l⟩) W W<|tL [] W<|TC.ret ⟨_,W,[_],W,W⟩
theorem Kd(tk c n:Int)(j:Nm)(k: -2147483648<=n/\n<=2147483647):PT prog 31 [.agg [.int .u8 tk,.str j],.int .i64 c,.int .i32 n] (·= [.bool (lF tk c n)]):=by
 refine PI (CT.ob func31 W ntmps31 W λl m=> ?_);refine tC [2,2,3] W ?_;by_cases f:tk=2
 ·have g:(tk==2)=true:=by simp[f]
  refine tO [2,14] W<|aQ g W W W W<|tL [1,2] W<|TC.ret ⟨_,W,[_],W,by simp[lF,f]⟩
 have g:(tk==2)=false:=by simp[f]
 refine tO [2,14] W<|aQ g W W W W<|tL [0] W ?_;by_cases d:tk=1
 ·have h:(tk==1)=true:=by simp[d]
  refine tO [2,16] W<|aQ h W W W W<|tL [1] W ?_;by_cases a:n=0
  ·have b:(n==0)=true:=by simp[a]
   refine tO [2,18] W<|aQ b W W W W<|tL [] W<|TC.ret ⟨_,W,[_],W,by simp[lF,d,a]⟩
  ·have b:(n==0)=false:=by simp[a]
   refine tO [2,18] W<|aQ b W W W W<|tL [] W<|TC.ret ⟨_,W,[_],W,by simp[lF,d,a]⟩
 have h:(tk==1)=false:=by simp[d]
 refine tO [2,16] W<|aQ h W W W W<|tL [0] W ?_;by_cases e:tk=3
 ·have i:(tk==3)=true:=by simp[e]
  refine tO [2,24] W<|aQ i W W W W<|tL [1] W ?_;by_cases a:n>=0
  ·have b:decide (n>=0)=true:=by simp[a]
   refine tO [2,26] W<|aQ b W W W W<|tR [29] W ?_
   first|refine ax W W ?_|(refine av W ?_;(refine zm W W ?_;rw[yC k]))
   refine tL [] W<|TC.ret ⟨_,W,[_],W,by simp[lF,e,a]⟩
  ·have b:=avc a;refine tO [2,26] W<|aQ b W W W W<|tL [] W<|TC.ret ⟨_,W,[_],W,by simp[lF,e,a]⟩
 have i:(tk==3)=false:=by simp[e]
 refine tO [2,24] W<|aQ i W W W W<|tL [0,2] W<|TC.ret ⟨_,W,[_],W,by simp[lF,d,f,e]⟩
theorem xl{en:List En}(k:qw en)(tk:Int)(a:Nm):PT prog 32 [.sl (en.map En.cells),.agg [.int .u8 tk,.str a]] (·= [.sl (dJ (fq en tk a))]):=by
 refine PI (CT.ob func32 W ntmps32 W λo p=> ?_);refine tC [2,2,3] W ?_;by_cases b:tk=1
 ·have g:(tk==1)=true:=by simp[b]
  refine tO [2,13] W<|aQ g W W W W<|tL [1,2] W<|TC.ret ⟨_,W,[_],W,by rw[fq,au2 b];rfl⟩
 have g:(tk==1)=false:=by simp[b]
 refine tO [2,13] W<|aQ g W W W W<|tL [0] W ?_;by_cases c:tk=3
 ·have h:(tk==3)=true:=by simp[c]
  refine tO [2,16] W<|aQ h W W W W<|tL [1] W ?_;rcases BH en (λe=>decide (e.name=a))with⟨i,j⟩|⟨f,m,i,j⟩
  ·have d:=wz en a k.n;rw[i]at d;refine tO [2,20] W<|aE d W W<|tL [2,0,2] W<|TC.ret ⟨_,W,[_],W,by rw[fq,auU b,au2 c,j];rfl⟩
  ·have d:=wz en a k.n;rw[i]at d;have l:=Eg m;have n:fq en tk a=en[f].de:=by rw[fq,auU b,au2 c,j]
   rw[n];unfold En.cells at l;refine tO [2,20] W<|aE d W W<|tR [2,22] W<|aQ (au5 (auJ f)) W W W W<|tR [1,2,25] W<|aG W W W (auJ f) l W<|tL [] W<|TC.ret ⟨_,W,[_],W,W⟩
 have h:(tk==3)=false:=by simp[c]
 refine tO [2,16] W<|aQ h W W W W<|tL [0,2] W<|TC.ret ⟨_,W,[_],W,by rw[fq,auU b,auU c];rfl⟩
theorem Bg(d:En)(x:Nm)(a:d.de.length<=1000000):PT prog 135 [.agg d.cells,.bm [.str x] 0] (·= [.bool (mV d.de x)]):=by
 unfold En.cells;refine PI (CT.ob func135 W ntmps135 W λb c=> ?_);refine tO [2,2,11] W<|aE (pb _ _ a) W W<|tL [] W<|TC.ret ⟨_,W,[_],W,W⟩
theorem C7{en:List En}(a:qw en)(x:Nm):PT prog 116 [.sl (en.map En.cells),.str x] (·= [.int .i64 (sg (en.findIdx? λe=>mV e.de x))]):=by
 refine PI (CT.ob func116 W ntmps116 W λc f=> ?_);refine tO [2,2,11] W<|aE (nh en 135 [.bm [.str x] 0] (λd=>mV d.de x) a.n (λd b=>Bg d x (a.c d b))) W W<|tL [] W<|TC.ret ⟨_,rfl,[_],rfl,rfl⟩
def isConst(en:List En)(e:Xp):Bool:=if e.kd=1\/e.kd=2 then true else if e.kd=3 then(en.find? λt=>mV t.de e.nm).isSome else false
theorem xo{en:List En}(m:qw en)(e:Xp):PT prog 86 [.sl (en.map En.cells),.agg e.cells] (·= [.int .i32 (pT en e),.bool (isConst en e)]):=by
 rw[e.aC];unfold pT isConst;generalize e.kd=a;generalize e.num=y;generalize e.nm=c;refine PI (CT.ob func86 W ntmps86 W λw x=> ?_);refine tC [2,2,3] W ?_;by_cases n:a=1
 ·have h:(a==1)=true:=by simp[n]
  refine tO [2,14] W<|aQ h W W W W<|tL [1,1,2] W<|TC.ret ⟨_,W,[_,_],W,by grind⟩
 have h:(a==1)=false:=by simp[n]
 refine tO [2,14] W<|aQ h W W W W<|tL [0] W ?_;by_cases o:a=2
 ·have i:(a==2)=true:=by simp[o]
  refine tO [2,15] W<|aQ i W W W W<|tL [1,2] W<|TC.ret ⟨_,W,[_,_],W,by grind⟩
 have i:(a==2)=false:=by simp[o]
 have p: ¬(a=1\/a=2):=by omega
 rw[auU p,auU p];refine tO [2,15] W<|aQ i W W W W<|tL [0] W ?_;by_cases d:a=3
 ·have j:(a==3)=true:=by simp[d]
  refine tO [2,19] W<|aQ j W W W W<|tL [1] W ?_;rw[au2 d,au2 d];have f:=C7 m c;rcases BH en (λe=>mV e.de c)with⟨k,g⟩|⟨b,q,k,g⟩
  ·rw[k]at f;refine tO [2,23] W<|aE f W W<|tL [2,0,2] W<|TC.ret ⟨_,W,[_,_],W,by rw[rj,g];rfl⟩
  ·rw[k]at f;have l:=Eg q;have u:rj en c=lJ en[b].de c:=by rw[rj,g]
   have t:=m.c _ (avb q);have r:=BG en[b].de c t;have z:=J' en[b].de c;have s:IntKind.i32.wrap (lJ en[b].de c)=lJ en[b].de c:=C6 (by omega);rw[u,g];unfold En.cells at l;generalize en[b]=v at l r s;refine tO [2,23] W<|aE f W W<|tR [2,25] W<|aQ (au5 (auJ b)) W W W W<|tL [1] W<|TC.draw bN<|fR 2 W<|a_ W W W (auJ b) l W<|fR 4 W<|aW r W W<|rc W W ?_;rw[s];refine fR 2 W<|TF.nil ⟨by kernel_rfl,?_⟩;exact TC.ret ⟨_,W,[_,_],W,W⟩
 have j:(a==3)=false:=by simp[d]
 refine tO [2,19] W<|aQ j W W W W<|tL [0] W ?_;rw[auU d,auU d];refine tC [2] W<|TC.ret ⟨_,W,[_,_],W,W⟩
theorem Eh(z:Int):PT prog 136 [.int .i32 z] (·= [.agg (J7 z).cells]):=by
 rw[Xp.aC];refine PI (CT.ob func136 W ntmps136 W λa b=> ?_);refine tC [2,2] W<|TC.ret ⟨_,W,[_],W,W⟩
abbrev zS(s:Nm):Xp:= .mk 3 0 0 s [] [] (0,0)
theorem IU(s:Nm):PT prog 144 [.str s] (·= [.agg (zS s).cells]):=by
 rw[Xp.aC];refine PI (CT.ob func144 W ntmps144 W λa b=> ?_);refine tC [2,2] W<|TC.ret ⟨_,W,[_],W,W⟩
end Go.Proofs.Sz
namespace Go.Sm
open Go.Mt
def sV(rs:List (List D))(m:M)(H:Hp):Prop:=(rs= []/\m= .d (.sl [])/\H= [])\/(rs≠ []/\ ∃aL,m= .bH 0 aL rs.length/\H= [.row true 1 aL (bf rs)])
theorem sV.acc{rs:List (List D)}{m:M}{H:Hp}(h:sV rs m H):Acc 1 0 rs m H:=by
 rcases h with⟨a,b,_⟩|⟨a,c,b,d⟩
 ·exact .inl ⟨a,b⟩
 ·exact .inr ⟨a,c,b,by rw[d];rfl⟩
theorem sV.app{rs:List (List D)}{m:M}{H:Hp}(h:sV rs m H)(r:List D):sV (rs++ [r]) (iA m H [r]) (fm 1 m H [r]):=by
 rcases h with⟨rfl,rfl,rfl⟩|⟨b,a,rfl,rfl⟩
 ·exact .inr ⟨by simp,0,by simp[iA,vo],by simp[fm,kz]⟩
 ·exact .inr ⟨by simp,a+1,by simp[iA],by simp[fm,bf]⟩
theorem vE(l:List Nm): ∀r∈dJ l,r.length=1:=by grind
theorem xq(l:List Nm)(x:Nm):(lK l x).length<=l.length+1:=by unfold lK;split<;>simp
theorem sW(r l:List Nm):(r.foldl lK l).length<=l.length+r.length:=by
 induction r generalizing l with
 |nil=>simp
 |cons a r b=>simp only[avZ,au4];have:=b (lK l a);have:=xq l a;omega
mutual
def pX:aB->Nat
 | .mk _ lhs _ _ _ _ aj _=>lhs.length+mX aj
def mX:List bh->Nat
 | []=>0
 |a::r=>vG a+mX r
def vG:bh->Nat
 | .mk _ b _ _ _=>gg b
def gg:bj->Nat
 | .mk _ au=>kB au
def kB:List aB->Nat
 | []=>0
 |q::r=>pX q+kB r
end
mutual
theorem nK: ∀q:aB,(cd q).length<=pX q
 | .mk _ b _ _ _ _ a _=>by rw[cd,pX];exact yb b a
theorem yb: ∀(l:List Nm) (r:List bh),(jQ l r).length<=l.length+mX r
 |l,[]=>by rw[jQ,mX];omega
 |l,a::r=>by rw[jQ,mX];have b:=yb ((sf a).foldl lK l) r;have c:=sW (sf a) l;have d:=Ga a;omega
theorem Ga: ∀a:bh,(sf a).length<=vG a
 | .mk _ b _ _ _=>by rw[sf,vG];exact zT b
theorem zT: ∀b:bj,(kT b).length<=gg b
 | .mk c a=>by rw[kT,gg];have:=yd c [] a;simpa using this
theorem yd: ∀(a:List Va) (l:List Nm) (r:List aB),(lX a l r).length<=l.length+kB r
 |a,l,[]=>by rw[lX,kB];omega
 |a,l,c::r=>by
  rw[lX,kB];have d:=yd a (((cd c).filter λb=>(f_ a b).isNone).foldl lK l) r;have e:=sW ((cd c).filter λb=>(f_ a b).isNone) l;have f:=awk (λb=>(f_ a b).isNone) (cd c);have g:=nK c;omega
end
end Go.Sm
namespace Go.Mt
end Go.Mt
namespace Go.Proofs.Sz
open Go.Mt Go.Sm Go.Proofs
open Tryz
theorem HC(l:List Nm)(x:Nm)(d:l.length<=1000000){m:M}{H:Hp}(h:sV (dJ l) m H): ∃r K,sV (dJ (lK l x)) r K/\CT prog 90 [m,.d (.str x)] H λr' f=>r'=r/\f=K:=by
 have c:=h.acc.view (vE l);have a:=pb l x d;cases b:mV l x with
 |true=>
  rw[b]at a;refine⟨m,H,by rw[lK,au2 b];exact h,?_⟩;refine CT.ob func90 W ntmps90 W λg i=>tO [2,2,11] W<|TL.cw 5 W c<|aE a W W<|tL [1,2] W<|TC.ret ⟨_,rfl,rfl,rfl⟩
 |false=>
  rw[b]at a;have e:dJ (lK l x)=dJ l++ [[.str x]]:=by rw[lK,auU (by rw[b];simp)];simp[dJ]
  refine⟨_,_,by rw[e];exact h.app [.str x],?_⟩;refine CT.ob func90 W ntmps90 W λg i=>tO [2,2,11] W<|TL.cw 5 W c<|aE a W W<|tR [0,2,16] W<|mS (rows:=[[.str x]]) h.acc W W W W W (by grind) (by grind) (by grind)<|tL [] W<|TC.ret ⟨_,rfl,rfl,rfl⟩
theorem IV(l:List Nm)(f:l.length<=1000000): ∃r K,sV (dJ l) r K/\CT prog 88 [.d (.sl (dJ l))] [] λr' a=>r'=r/\a=K:=by
 cases l with
 |nil=>
  refine⟨.d (.sl []),[],.inl ⟨W,W,W⟩,?_⟩;refine CT.ob func88 W ntmps88 W λc d=>tO [2,2,8] W<|L0 W W (λb=> ?_)
  refine tL [] W ?_;cases b with
  |true=>
   refine tC [1,2] W<|TC.ret ⟨_,W,W,W⟩
  |false=>
   refine tO [0,2,11] W<|qj W W W<|tL [] W<|TC.ret ⟨_,W,W,W⟩
 |cons e l=>
  refine⟨_,_,.inr ⟨by simp,0,rfl,rfl⟩,?_⟩;refine CT.ob func88 W ntmps88 W λc d=>tO [2,2,8] W<|J6 W (by kernel_rfl) W<|tR [0,2,11] W<|iL true W W W W (by rfl) (by simp) (by grind) (by grind)<|tL [] W<|TC.ret ⟨_,rfl,by simp[v7],rfl⟩
theorem IW(a:List Va)(x:Nm):decide (sg (f_ a x)<0)=(f_ a x).isNone:=by
 cases b:f_ a x with
 |none=>simp[sg]
 |some c=>simp only[sg,Option.isNone_some];exact avc (by omega)
theorem Ei(q:aB)(F:q.aj.length<=1000)(z:pX q<=1000000)(A: ∀r∈q.aj,PT prog 89 [.agg r.cy.cells] (·= [.sl (dJ (kT r.cy))])):PT prog 59 [.agg q.cells] (·= [.sl (dJ (cd q))]):=by
 obtain⟨G,v,E,S,O,g,a,H⟩:=q;simp only[aB.aj]at F A;rw[pX]at z;rw[cd,aB.aC];simp only[aB.kd,aB.lhs,aB.f,aB.args,aB.has,aB.ex,aB.aj,aB.ps];rw[g.aC];obtain⟨I,J,P,K⟩:=IV v (by omega);obtain⟨B,ac⟩: ∃B,B=sc G v E (S.map Xp.cells) O (bU g.kd g.op g.num g.nm g.names (g.kids.map Xp.cells) g.ps) (a.map bh.cells) H:=⟨_,rfl⟩;refine PI (CT.ob func59 W ntmps59 W λT U=> ?_);refine tO [2,2,14] W<|aq K W W<|tR [2,17] W<|bp W W W ?_;rw[au8];refine tL [] W<|Rn [nN 14 0,nN 13 a.length,nD 12 (.sl (a.map bh.cells)),(3,.m I)] J W W<|tC [3] W<|TC.lp (λk l=> ∃(b:Nat) (n:List (Nat×List M)) (m:M) (f:Hp) (h:List Nm),l=⟨[nN 14 b,nN 13 a.length,nD 12 (.sl (a.map bh.cells)),(3,.m m)],n,f⟩/\b<=a.length/\k=a.length-b/\sV (dJ h) m f/\jQ h (a.drop b)=jQ v a/\h.length+mX (a.drop b)<=1000000) a.length _
  ⟨0,_,_,_,v,rfl,by omega,rfl,P,rfl,z⟩ W ?_
 rintro k l ⟨b,n,m,f,h,rfl,V,rfl,o,e,s⟩;refine tC [2] W<|TC.cond W (λx=> ?_) (λx=> ?_)
 ·have p:b<a.length:=by grind
  have y:(a.map bh.cells)[((b:Nat):Int).toNat]?=some a[b].cells:=by simp[p]
  have t:=A _ (avb p);rw[avQ p]at e s;rw[jQ]at e;rw[mX]at s;have L:sf a[b]=kT a[b].cy:=by cases a[b];rw[sf];rfl
  rw[L]at e;have Q:vG a[b]=gg a[b].cy:=by cases a[b];rw[vG];rfl
  rw[Q]at s;have C:=zT a[b].cy;generalize a[b]=r at y t e s C;rw[bj.aC]at t;rw[bh.aC]at y;generalize kT r.cy=c at e t C;refine tO [3,2,20] W<|aG W W W (auJ b) y W<|tR [2,24] W<|aE t W W<|tR [25] W<|bp W W W ?_;rw[au8];refine tL [] W<|Rn [nN 22 0,nN 21 c.length,nD 20 (.sl (dJ c)),(3,.m m),nN 14 b,nN 13 a.length,nD 12 (.sl (a.map bh.cells))] f W W<|tC [3] W<|TC.lp (λk l=> ∃(d:Nat) (n:List (Nat×List M)) (m:M) (f:Hp) (i:List Nm),l=⟨[nN 22 d,nN 21 c.length,nD 20 (.sl (dJ c)),(3,.m m),nN 14 b,nN 13 a.length,nD 12 (.sl (a.map bh.cells))],n,f⟩/\d<=c.length/\k=c.length-d/\sV (dJ i) m f/\(c.drop d).foldl lK i=c.foldl lK h/\i.length<=h.length+d) c.length _
   ⟨0,_,_,_,h,rfl,by omega,rfl,o,rfl,by omega⟩ W ?_
  rintro k l ⟨d,n,m,f,i,rfl,X,rfl,o,j,Y⟩;refine tC [2] W<|TC.cond W (λx=> ?_) (λx=> ?_)
  ·have u:d<c.length:=by grind
   have D:=li u;rw[avQ u,avZ]at j;generalize c[d]=w at D j;obtain⟨Z,H2,R,N⟩:=HC i w (by omega) o;have ah:=xq i w;refine tO [3,2,28] W<|aG W W W (auJ d) D W<|tR [2,32] W<|aq N W W<|tR [2,33] W<|az W W W (by omega)<|tL [] W<|again (k':=c.length-(d+1)) (by omega) ⟨d+1,_,_,_,lK i w,rfl,by omega,rfl,R,j,by omega⟩ W W
  ·refine TC.exit ?_;have u:d=c.length:=by grind
   subst u;rw[awn]at j;simp only[axc]at j;rw[<-j]at e;refine tO [2,34] W<|az W W W (by omega)<|tL [] W<|again (k':=a.length-(b+1)) (by omega) ⟨b+1,_,_,_,_,rfl,by omega,rfl,o,e,by omega⟩ W W
 ·refine TC.exit ?_;have p:b=a.length:=by grind
  subst p;rw[awn,jQ]at e;subst e;refine tC [2] W<|TC.cw 2 W (o.acc.view (vE _))<|TC.ret ⟨_,W,[_],W,W⟩
theorem Ke(b:bj)(A:b.vars.length<=1000000)(G:b.au.length<=1000000)(H:gg b<=1000000)(B: ∀s∈b.au,PT prog 59 [.agg s.cells] (·= [.sl (dJ (cd s))])):PT prog 89 [.agg b.cells] (·= [.sl (dJ (kT b))]):=by
 obtain⟨f,a⟩:=b;simp only[bj.vars,bj.au]at G B A;rw[gg]at H;rw[kT,bj.aC];simp only[bj.vars,bj.au];refine PI (CT.ob func89 W ntmps89 W λL N=> ?_);refine tO [2,2,2,14] W<|bp W W W ?_;rw[au8];refine tL [] W<|Rn [nN 11 0,nN 10 a.length,nD 9 (.sl (a.map aB.cells)),nD 3 (.sl []),nD 1 (.bm [.sl (aI f),.sl (a.map aB.cells)] 0)] [] W W<|tC [3] W<|TC.lp (λo p=> ∃(c:Nat) (q:List (Nat×List M)) (m:M) (i:Hp) (l:List Nm),p=⟨[nN 11 c,nN 10 a.length,nD 9 (.sl (a.map aB.cells)),(3,.m m),nD 1 (.bm [.sl (aI f),.sl (a.map aB.cells)] 0)],q,i⟩/\c<=a.length/\o=a.length-c/\sV (dJ l) m i/\lX f l (a.drop c)=lX f [] a/\l.length+kB (a.drop c)<=1000000) a.length _
  ⟨0,_,_,_,[],rfl,by omega,rfl,.inl ⟨rfl,rfl,rfl⟩,rfl,by grind⟩ W ?_
 rintro o p ⟨c,q,m,i,l,rfl,O,rfl,n,j,w⟩;refine tC [2] W<|TC.cond W (λx=> ?_) (λx=> ?_)
 ·have r:c<a.length:=by grind
  have y:(a.map aB.cells)[((c:Nat):Int).toNat]?=some a[c].cells:=by simp[r]
  have t:=B _ (avb r);rw[avQ r]at j w;rw[lX]at j;rw[kB]at w;have C:=nK a[c];have D:=a[c].len;generalize a[c]=s at y t j w C D;generalize cd s=e at j t C;obtain⟨P,Q,R,S,T,U,V,X,Y,Z,b0,b1,b2,b3,b4,b5,I⟩:=qv D;rw[I]at y t;refine tO [3,2,17] W<|aG W W W (auJ c) y W<|tR [2,20] W<|aE t W W<|tR [21] W<|bp W W W ?_;rw[au8];refine tL [] W<|Rn [nN 18 0,nN 17 e.length,nD 16 (.sl (dJ e)),(3,.m m),nN 11 c,nN 10 a.length,nD 9 (.sl (a.map aB.cells)),nD 1 (.bm [.sl (aI f),.sl (a.map aB.cells)] 0)] i W W<|tC [3] W<|TC.lp (λo p=> ∃(d:Nat) (q:List (Nat×List M)) (m:M) (i:Hp) (k:List Nm),p=⟨[nN 18 d,nN 17 e.length,nD 16 (.sl (dJ e)),(3,.m m),nN 11 c,nN 10 a.length,nD 9 (.sl (a.map aB.cells)),nD 1 (.bm [.sl (aI f),.sl (a.map aB.cells)] 0)],q,i⟩/\d<=e.length/\o=e.length-d/\sV (dJ k) m i/\((e.drop d).filter λg=>(f_ f g).isNone).foldl lK k=(e.filter λg=>(f_ f g).isNone).foldl lK l/\k.length<=l.length+d) e.length _
   ⟨0,_,_,_,l,rfl,by omega,rfl,n,rfl,by omega⟩ W ?_
  rintro o p ⟨d,q,m,i,k,rfl,hj,rfl,n,h,Ts⟩;refine tC [2] W<|TC.cond W (λx=> ?_) (λx=> ?_)
  ·have u:d<e.length:=by grind
   have z:=li u;rw[avQ u]at h;generalize e[d]=g at z h;have E:=Kc f g A;have v:=IW f g;cases F:(f_ f g).isNone with
   |true=>
    rw[F]at v;rw[aww (by grind),avZ]at h;obtain⟨m2,H2,K,J⟩:=HC k g (by omega) n;have ac:=xq k g;refine tO [3,2,24] W<|aG W W W (auJ d) z W<|tR [2,29] W<|aE E W W<|tR [30] W<|aQ v W W W W<|tR [1,2,33] W<|aq J W W<|tR [2,34] W<|az W W W (by omega)<|tL [] W<|again (k':=e.length-(d+1)) (by omega) ⟨d+1,_,_,_,lK k g,rfl,by omega,rfl,K,h,by omega⟩ W W
   |false=>
    rw[F]at v;rw[awx (by grind)]at h;refine tO [3,2,24] W<|aG W W W (auJ d) z W<|tR [2,29] W<|aE E W W<|tR [30] W<|aQ v W W W W<|tR [0,2,34] W<|az W W W (by omega)<|tL [] W<|again (k':=e.length-(d+1)) (by omega) ⟨d+1,_,_,_,k,rfl,by omega,rfl,n,h,by omega⟩ W W
  ·refine TC.exit ?_;have u:d=e.length:=by grind
   subst u;rw[awn]at h;simp only[List.filter_nil,axc]at h;rw[<-h]at j;refine tO [2,35] W<|az W W W (by omega)<|tL [] W<|again (k':=a.length-(c+1)) (by omega) ⟨c+1,_,_,_,_,rfl,by omega,rfl,n,j,by omega⟩ W W
 ·refine TC.exit ?_;have r:c=a.length:=by grind
  subst r;rw[awn,lX]at j;subst j;refine tC [2] W<|TC.cw 2 W (n.acc.view (vE _))<|TC.ret ⟨_,W,[_],W,W⟩
theorem uL{q:aB}{a:bh}(h:a∈q.aj):gg a.cy<=pX q:=by
 obtain⟨f,k,d,m,l,g,c,i⟩:=q;simp only[aB.aj]at h;rw[pX]
 suffices gg a.cy<=mX c by omega
 induction c with
 |nil=>cases h
 |cons b e j=>
  rw[mX];rcases auX.1 h with rfl|h
  ·have:vG a=gg a.cy:=by cases a;rw[vG];rfl
   omega
  ·grind
theorem wB{b:bj}{q:aB}(h:q∈b.au):pX q<=gg b:=by
 obtain⟨e,a⟩:=b;simp only[bj.au]at h;rw[gg]
 induction a with
 |nil=>cases h
 |cons b c d=>
  rw[kB];rcases auX.1 h with rfl|h
  ·omega
  ·grind
theorem Kf(b:bj)(f:uP b):gg b<=1000000->PT prog 89 [.agg b.cells] (·= [.sl (dJ (kT b))]):=by
 induction f with
 | @mk m g h i n j o p q k=>
  intro l;refine Ke _ h i l λa c=> ?_
  have r:=wB (b:= .mk m g) c;refine Ei a (j a c) (by omega) λe d=>k a c e d ?_
  have:=uL d;omega
theorem wC(q:aB)(c:q.aj.length<=1000)(d: ∀a∈q.aj,uP a.cy)(e:pX q<=1000000):PT prog 59 [.agg q.cells] (·= [.sl (dJ (cd q))]):=
 Ei q c e λa b=>Kf a.cy (d a b) (by have:=uL b;omega)
end Go.Proofs.Sz
namespace Go.Sm
open Go.Mt
structure Mc where
 it:Nat
 iu:Nat
 im:Nat
 ip:Nat
 jR:Nat
 P:Pg
 d:Nd
 ad:Nat->Nat
 r1:M
 r2:M
 r3:M
 r4:M
abbrev Gb(c:Mc):List M:=[.ref c.iu 0,c.r1,c.r2,c.r3,c.r4]
structure MM(c:Mc)(x:Kp)(H:Hp):Prop where
 inst:H[c.it]?=some (.box (Gb c))
 unit:H[c.iu]?=some (.box (pW c.P c.d c.im c.ip c.jR))
 mem:H[c.im]?=some (.row false 1 0 (bE (bW c.d) (ji x.m)))
 cu:H[c.ip]?=some (.row false 1 0 (bE (bW c.d) (kA x.p)))
 an:H[c.jR]?=some (.row false 1 0 (bE (bW c.d) (fA x.s c.ad)))
 d1:c.im≠c.ip
 d2:c.im≠c.jR
 d3:c.ip≠c.jR
 d4:c.it≠c.im/\c.it≠c.ip/\c.it≠c.jR
 d5:c.iu≠c.im/\c.iu≠c.ip/\c.iu≠c.jR
 small:bW c.d<=1000000000
structure MS(c:Mc)(H:Hp)(x:Kp)(K:Hp):Prop where
 mm:MM c x K
 len:H.length<=K.length
 iY: ∀j,j<H.length->j≠c.im->j≠c.ip->j≠c.jR->K[j]?=H[j]?
theorem MS.refl{c:Mc}{x:Kp}{H:Hp}(h:MM c x H):MS c H x H:=⟨h,auK _,λ_ _ _ _ _=>rfl⟩
theorem MS.trans{c:Mc}{x y:Kp}{H K L:Hp}(h:MS c H x K)(k:MS c K y L):MS c H y L:=⟨k.mm,avD h.len k.len,λa e f b d=>(k.iY a (avR e h.len) f b d).trans (h.iY a e f b d)⟩
theorem lr{H:Hp}{i:Nat}{ob:Ob}(h:H[i]?=some ob):i<H.length:=by grind
theorem MM.mono{c:Mc}{x:Kp}{H K:Hp}(h:MM c x H)(a: ∀(b:Nat) (d:Ob),H[b]?=some d->K[b]?=some d):MM c x K:=
 ⟨a _ _ h.inst,a _ _ h.unit,a _ _ h.mem,a _ _ h.cu,a _ _ h.an,h.d1,h.d2,h.d3,h.d4,h.d5,h.small⟩
theorem MS.grow{c:Mc}{x:Kp}{H K:Hp}(h:MM c x H)(f:H.length<=K.length)(b: ∀a:Nat,a<H.length->K[a]?=H[a]?):MS c H x K:=
 ⟨h.mono λa g d=>(b a (lr d)).trans d,f,λa e _ _ _=>b a e⟩
theorem gC{H:Hp}{i:Nat}{ob:Ob}(h:H[i]?=some ob)(x:Ob):(H.set i x)[i]?=some x:=by grind
theorem MM.C8{c:Mc}{x:Kp}{H:Hp}(h:MM c x H)(f:Nat->Int):MS c H ⟨f,x.p,x.s⟩ (H.set c.im (.row false 1 0 (bE (bW c.d) (ji f)))):=by
 have b: ∀a,a≠c.im->(H.set c.im (.row false 1 0 (bE (bW c.d) (ji f))))[a]?=H[a]?:= λa d=>auT (avH d)
 exact⟨⟨by rw[b _ h.d4.1];exact h.inst,by rw[b _ h.d5.1];exact h.unit,gC h.mem _,by rw[b _ (avH h.d1)];exact h.cu,by rw[b _ (avH h.d2)];exact h.an,h.d1,h.d2,h.d3,h.d4,h.d5,h.small⟩,by simp,λa _ e _ _=>b a e⟩
theorem MM.Ej{c:Mc}{x:Kp}{H:Hp}(h:MM c x H)(f:Nat->Bool):MS c H ⟨x.m,f,x.s⟩ (H.set c.ip (.row false 1 0 (bE (bW c.d) (kA f)))):=by
 have b: ∀a,a≠c.ip->(H.set c.ip (.row false 1 0 (bE (bW c.d) (kA f))))[a]?=H[a]?:= λa d=>auT (avH d)
 exact⟨⟨by rw[b _ h.d4.2.1];exact h.inst,by rw[b _ h.d5.2.1];exact h.unit,by rw[b _ h.d1];exact h.mem,gC h.cu _,by rw[b _ (avH h.d3)];exact h.an,h.d1,h.d2,h.d3,h.d4,h.d5,h.small⟩,by simp,λa _ _ e _=>b a e⟩
theorem MM.Ek{c:Mc}{x:Kp}{H:Hp}(h:MM c x H)(f:Nat->Option US):MS c H ⟨x.m,x.p,f⟩ (H.set c.jR (.row false 1 0 (bE (bW c.d) (fA f c.ad)))):=by
 have b: ∀a,a≠c.jR->(H.set c.jR (.row false 1 0 (bE (bW c.d) (fA f c.ad))))[a]?=H[a]?:= λa d=>auT (avH d)
 exact⟨⟨by rw[b _ h.d4.2.2];exact h.inst,by rw[b _ h.d5.2.2];exact h.unit,by rw[b _ h.d2];exact h.mem,by rw[b _ h.d3];exact h.cu,gC h.an _,h.d1,h.d2,h.d3,h.d4,h.d5,h.small⟩,by simp,λa _ _ _ e=>b a e⟩
def cg{α:Type}(f:Nat->α)(k:Nat)(v:α)(j:Nat):α:=if j=k then v else f j
theorem mo{n:Nat}{f:Nat->Int}{k:Nat}(z:Int)(h:k<n):ep (bE n (ji f)) (((k:Nat):Int).toNat*1) [.d (.int .i32 z)]=some (bE n (ji (cg f k z))):=by
 rw[oe _ h];refine av3 some (av3 (bE n) (funext λa=> ?_));unfold tH ji cg;split<;>rfl
theorem tN{n:Nat}{f:Nat->Bool}{k:Nat}(z:Bool)(h:k<n):ep (bE n (kA f)) (((k:Nat):Int).toNat*1) [.d (.bool z)]=some (bE n (kA (cg f k z))):=by
 rw[oe _ h];refine av3 some (av3 (bE n) (funext λa=> ?_));unfold tH kA cg;split<;>rfl
theorem tP{n:Nat}{f:Nat->Option US}{ad:Nat->Nat}{k:Nat}(h:k<n):ep (bE n (fA f ad)) (((k:Nat):Int).toNat*1) [.d .bX]=some (bE n (fA (cg f k none) ad)):=by
 rw[oe _ h];refine av3 some (av3 (bE n) (funext λa=> ?_));unfold tH cg;by_cases e:a=k
 ·grind
 ·grind
theorem Kg{x:Kp}{z:Int}{a fr f:Nat}(g:fr<=a)(h:a<f):x.fV [some z] a fr f=⟨cg x.m a z,x.p,x.s⟩:=by
 unfold Kp.fV
 congr 1
 ·funext b;unfold mD cg
  by_cases e:b=a
  ·subst e;rw[au2 ⟨auK _,by simp,g,h⟩,au2 W];simp[bZ]
  ·grind
 ·funext b;unfold qt;rw[auU];rintro⟨⟨i,d,_⟩,c⟩;simp at d;have:b-a=0:=by omega
  rw[this]at c;simp at c
 ·funext b;unfold qu;rw[auU];rintro⟨⟨i,d,_⟩,c⟩;simp at d;have:b-a=0:=by omega
  rw[this]at c;simp at c
theorem pA{x:Kp}{o:Option Int}{a fr d:Nat}(h: ¬(fr<=a/\a<d)):x.fV [o] a fr d=x:=by
 unfold Kp.fV;obtain⟨m,i,j⟩:=x
 congr 1
 ·funext c;unfold mD;rw[auU];rintro⟨e,b,f,g⟩;simp at b;apply h;omega
 ·funext c;unfold qt;rw[auU];rintro⟨⟨e,b,f,g⟩,_⟩;simp at b;apply h;omega
 ·funext c;unfold qu;rw[auU];rintro⟨⟨e,b,f,g⟩,_⟩;simp at b;apply h;omega
theorem BJ{x:Kp}{a fr c:Nat}(d:fr<=a)(f:a<c):x.fV [none] a fr c=⟨cg x.m a 0,cg x.p a false,cg x.s a none⟩:=by
 unfold Kp.fV
 congr 1
 ·funext b;unfold mD cg
  by_cases e:b=a
  ·subst e;rw[au2 ⟨auK _,by simp,d,f⟩,au2 W];simp[bZ]
  ·grind
 ·funext b;unfold qt cg
  by_cases e:b=a
  ·grind
  ·grind
 ·funext b;unfold qu cg
  by_cases e:b=a
  ·grind
  ·grind
end Go.Sm
namespace Go.Proofs.Sz
open Go.Mt Go.Sm Go.Proofs
open Tryz
theorem rv(c:Mc)(j:qw c.P.aJ)(x:Kp)(H:Hp)(h:MM c x H)(a fr b:Nat)(o:a<=2000000000)(p:b<=bW c.d)(e:Xp):DT prog 57 [.ref c.it 0,dN a,.d (.agg e.cells),dN fr,dN b] H λr K=>MS c H (x.fV [some (pT c.P.aJ e)] a fr b) K:=by
 have d:=xo j e;rw[e.aC]at d⊢;refine DT.ob func57 W ntmps57 W<|dC [2] W ?_;rcases auM a fr with g|g
 ·have l:decide (((a:Nat):Int)>=((fr:Nat):Int))=false:=avc (by omega);rw[pA (by omega)];refine dO [2,16] W<|Po (aQ l W W W W)<|dL [0] W<|⟨_,W,MS.refl h⟩
 rcases auM a b with i|i
 rotate_left
 ·have m:decide (((a:Nat):Int)<((b:Nat):Int))=false:=avc (by omega);rw[pA (by omega)];refine dO [2,16] W<|Po (aQ (au5 (by omega)) W W W W)<|dR [20] W ?_
  first|refine Po (ax W W) ?_|(refine Po (av W) ?_;refine Po (aQ m W W W W) ?_)
  refine dL [0] W<|⟨_,W,MS.refl h⟩
 rw[Kg g i];refine dO [2,16] W<|Po (aQ (au5 (by omega)) W W W W)<|dR [20] W ?_
 first|refine Po (ax W W) ?_|(refine Po (av W) ?_;refine Po (aQ (au5 (by omega)) W W W W) ?_)
 refine dL [1] W ?_;apply Ps bN
 ·intro q s;refine fR 3 W<|ay W W h.inst W<|fR 2 W<|ay W W h.unit W<|fR 4 W<|ay W W h.inst W<|fR 3 W<|ay W W h.unit W<|fR 1 W<|la ((Sy d).mono (by rintro _ _ ⟨⟨_,rfl,rfl⟩,rfl⟩;exact⟨W,W⟩)) W W<|fR 3 W<|c_ W W W h.mem (by omega) (by omega)<|fY W W h.mem W W (mo (n:=bW c.d) (f:=x.m) (k:=a) (pT c.P.aJ e) (by omega))<|TF.nil ⟨by kernel_rfl,rfl⟩
 exact⟨_,W,h.C8 _⟩
end Go.Proofs.Sz
namespace Go.Mt
end Go.Mt
namespace Go.Sm
open Go.Mt
theorem zU{en:List En}{a:List Xp}{i:Nat}(h:i<a.length):kF en (a.take (i+1))=kF en (a.take i)++ja en a[i]:=by
 rw[BE,BE,au1 h,avi,awh];simp
theorem vH(en:List En)(a:List Xp):(kF en a).length=aS (a.map xP):=by rw[uI,sd]
end Go.Sm
namespace Go.Proofs.Sz
open Go.Mt Go.Sm Go.Proofs
open Tryz
theorem uZ(c:Mc)(s:qw c.P.aJ)(fr g:Nat)(t:g<=bW c.d)(e:Xp)(u:jP e)(a:Nat)(p:a+xP e<=1000000000)(x:Kp)(H:Hp)(h:MM c x H):DT prog 118 [.ref c.it 0,.d (.agg e.cells),dN a,dN fr,dN g] H λr K=>MS c H (x.fV (ja c.P.aJ e) a fr g) K:=by
 have N:=F8 e;have E: ∀i∈e.kids,∀(a:Nat),a+xP i<=1000000000-> ∀x H,MM c x H->DT prog 118 [.ref c.it 0,.d (.agg i.cells),dN a,dN fr,dN g] H λr K=>MS c H (x.fV (ja c.P.aJ i) a fr g) K:= λi l a p x H h=>
  have:=Xp.C0 l
  uZ c s fr g t i (u.tJ l) a p x H h
 have J: ∀i∈e.kids,PT prog 85 [.agg i.cells] (·= [iN (xP i)]):= λi l=>ki i (u.tJ l) (by have:=kh (avw (f:=xP) l);omega)
 have z:=Ed e.kd;have C:= λl=>u.ga l
 have O:=u.kids;rw[N]at p;rw[e.aC,L8];have w:=BD c.P.aJ e.kd e.kids;generalize e.kids=b at E J p O C w⊢;generalize dt e.kd=m at z p w⊢;generalize e.kd=q at z C w⊢;generalize e.op=P;generalize e.num=L;generalize e.nm=y;generalize e.names=ac;generalize e.ps=Q;refine DT.ob func118 W ntmps118 W<|dC [2,2] W<|Qy (λF=> ∃K,MS c H (x.fV (x_ c.P.aJ q b) a fr g) K/\F=⟨[nN 2 (a+m),nD 6 (.bm (bU q P L y ac (b.map Xp.cells) Q) 0),nN 4 g,nN 3 fr,nR 0 c.it],[],K⟩) ?_ ?_
 ·refine dC [3] W ?_;rcases z with⟨rfl,rfl⟩|⟨rfl,rfl⟩|⟨rfl,rfl⟩|⟨R,S,T,rfl⟩
  ·obtain⟨v,U,rfl⟩:=C W;obtain⟨r,K,j,k⟩:=rv c s x H h a fr g (by omega) t v;have o:((v::U).map Xp.cells)[0]?=some v.cells:=rfl;rw[v.aC]at o k;refine dO [2,1,2,24] W<|Po (aG W W W (by decide) o W)<|dR [28] W<|Po (aq k W W)<|dR [2,30] W<|Po (az W W W (by omega))<|dL [] W<|⟨_,⟨K,j,rfl⟩,cR W W⟩
  ·obtain⟨r,K,j,k⟩:=rv c s x H h a fr g (by omega) t (J7 0);rw[Xp.aC]at k;refine dO [2,0,2,1,2,35] W<|Po (aE (by have:=Eh 0;rw[Xp.aC]at this;exact this) W W)<|dR [38] W<|Po (aq k W W)<|dR [2,40] W<|Po (az W W W (by omega))<|dL [] W<|⟨_,⟨K,j,rfl⟩,cR W W⟩
  ·obtain⟨r,K,j,k⟩:=rv c s x H h a fr g (by omega) t (J7 1);rw[Xp.aC]at k;refine dO [2,0,2,0,2,1,2,45] W<|Po (aE (by have:=Eh 1;rw[Xp.aC]at this;exact this) W W)<|dR [48] W<|Po (aq k W W)<|dR [2,50] W<|Po (az W W W (by omega))<|dL [] W<|⟨_,⟨K,j,rfl⟩,cR W W⟩
  ·have V:=avs.2 R;refine dO [2,19] W<|Po (aQ V W W W W)<|dR [0,2,32] W<|Po (aQ (avs.2 S) W W W W)<|dR [0,2,42] W<|Po (aQ (avs.2 T) W W W W)<|dL [0] W ?_;have X:x_ c.P.aJ q b= []:=by grind
   rw[X,Kp.wx];exact⟨_,⟨H,MS.refl h,W⟩,cR W W⟩
 rintro F ⟨K,j,rfl⟩;refine dO [2,53] W<|Po (bp W W W) ?_;rw[au8];refine dL [] W<|Pz [nN 50 0,nN 49 b.length,nD 48 (.sl (b.map Xp.cells)),nN 2 (a+m+aS ((b.take 0).map xP)),nN 4 g,nN 3 fr,nR 0 c.it] K W W<|dC [3] W<|DC.lp (λi y=> ∃(d:Nat) (G:List (Nat×List M)) (K:Hp),y=⟨[nN 50 d,nN 49 b.length,nD 48 (.sl (b.map Xp.cells)),nN 2 (a+m+aS ((b.take d).map xP)),nN 4 g,nN 3 fr,nR 0 c.it],G,K⟩/\MS c H (x.fV (x_ c.P.aJ q b++kF c.P.aJ (b.take d)) a fr g) K/\d<=b.length/\i=b.length-d) b.length _
  ⟨0,_,K,rfl,by rw[show kF c.P.aJ (b.take 0)= []from rfl,avg];exact j,by omega,rfl⟩ W ?_
 rintro i s1 ⟨d,G,K,rfl,j,hi,rfl⟩;refine dC [2] W<|DC.cond W (λY=> ?_) (λY=> ?_)
 ·have n:d<b.length:=by grind
  have o:(b.map Xp.cells)[((d:Nat):Int).toNat]?=some b[d].cells:=by simp[n]
  obtain⟨Z,ah⟩:=gx xP n;obtain⟨r2,K2,Tx,A⟩:=E _ (avb n) (a+m+aS ((b.take d).map xP)) (by omega) _ K j.mm;have B:=J _ (avb n);have I:=j.trans Tx;rw[show a+m+aS ((b.take d).map xP)=a+(x_ c.P.aJ q b++kF c.P.aJ (b.take d)).length by rw[auN,w,vH];omega,<-Kp.rq,avh,<-(zU (en:=c.P.aJ) n)]at I;generalize b[d]=D at o A B Z;rw[D.aC]at o A B;have Rc:((a+m+aS ((b.take d).map xP):Nat):Int)+((xP D:Nat):Int)=((a+m+aS ((b.take (d+1)).map xP):Nat):Int):=by omega
  refine dO [3,2,56] W<|Po (aG W W W (auJ d) o W)<|dR [2,63] W<|Po (aq A W W)<|dR [2,66] W<|Po (aE B W W)<|dR [67] W<|Po (az W W W (by omega)) ?_;rw[Rc];refine dR [2,68] W<|Po (az W W W (by omega))<|dL [] W<|bK (k':=b.length-(d+1)) (by omega) ⟨d+1,_,K2,rfl,I,by omega,rfl⟩ W W
 ·refine DC.exit ?_;have n:d=b.length:=by grind
  subst n;rw[avo]at j;exact⟨_,W,j⟩
termination_by SizeOf.sizeOf e
end Go.Proofs.Sz
namespace Go.Mt
section
variable{P:Program}{n B:Nat}{post:Exit->St->Prop}{sl:List (Nat×V)}{bx:List (Nat×List M)}{H:Hp}
theorem DC.El{c:Code}(j:Nat){ec aL:Nat}{cs:List M}(a:H[j]?=some (.row false ec aL cs))(k:DC P n B c ⟨sl,bx,H.set j (.row true ec aL cs)⟩ post):DC P n B c ⟨sl,bx,H⟩ post:=
 Ry _ (λ_ _ _ d e b=>b.mi a) k
end
theorem IX{H:Hp}{i aL k n:Nat}{rs:List (List D)}(b:H[i]?=some (.row true n aL (bf rs)))(c:k=rs.length)(d:rs≠ [])(e: ∀a∈rs,a.length=n):jy H (.bH i aL k)=some (.sl rs):=
 Acc.view (n:=n) (i:=i) (.inr ⟨d,aL,by rw[c],b⟩) e
end Go.Mt
namespace Go.Sm
open Go.Mt
theorem Gc{en:List En}{a:List bh}{i:Nat}(h:i<a.length):ng en (a.take (i+1))=ng en (a.take i)++lE en a[i].cy:=by
 rw[BF,BF,au1 h,avi,awh];simp
theorem Gd(en:List En)(a:List bh):(ng en a).length=aS (a.map gb):=by rw[xk,BC]
end Go.Sm
namespace Go.Proofs.Sz
open Go.Mt Go.Sm Go.Proofs
open Tryz
theorem Em(c:Mc)(Re:qw c.P.aJ)(fr j:Nat)(VC:j<=bW c.d)(q:aB)(R3:q.aj.length<=1000)(i7:q.args.length<=1000000)(d8:jP q.ex)(d9: ∀e∈q.args,jP e)(hP: ∀a∈q.aj,PT prog 40 [.agg a.cy.cells] (·= [iN (bP a.cy)]))
  (hA: ∀i∈q.aj,∀(a:Nat),a+bP i.cy<=1000000000-> ∀x H,MM c x H->DT prog 58 [.ref c.it 0,.d (.agg i.cy.cells),dN a,dN fr,dN j] H λr K=>MS c H (x.fV (lE c.P.aJ i.cy) a fr j) K)
  (a:Nat) (B:a+qP q<=1000000000) (x:Kp) (H:Hp) (h:MM c x H):DT prog 87 [.ref c.it 0,.d (.agg q.cells),dN a,dN fr,dN j] H λr K=>MS c H (x.fV (vy c.P.aJ q) a fr j) K:=by
 have P4:=jD q;have Y:=Ee q.kd;have V: ∀e∈q.ex::q.args,jP e/\PT prog 85 [.agg e.cells] (·= [iN (xP e)]):=by
  intro e G;rcases auX.1 G with rfl|G
  ·exact⟨d8,ki _ d8 (by omega)⟩
  ·exact⟨d9 e G,ki e (d9 e G) (by have:=kh (avw (f:=xP) G);omega)⟩
 rw[q.aC,L9];rw[P4]at B;generalize h_ q.kd=o at Y B⊢;generalize q.kd=T at Y⊢;generalize q.args=m at i7 V B⊢;generalize q.aj=i at R3 hA hP B⊢;generalize q.ex=b at V B⊢;generalize q.lhs=E;generalize q.f=C;generalize q.has=F;generalize q.ps=D;have Z:(b::m).map Xp.cells=bU b.kd b.op b.num b.nm b.names (b.kids.map Xp.cells) b.ps::m.map Xp.cells:=by rw[avm,b.aC]
 have i8:ja c.P.aJ b++kF c.P.aJ m=kF c.P.aJ (b::m):=by rw[kF]
 rw[i8];have f9:aS ((b::m).map xP)=xP b+aS (m.map xP):=by simp[aS]
 have i9:(b::m).length<=1000001:=by simp;omega
 rw[b.aC];generalize gc:b::m=g at V Z f9 i9⊢;refine DT.ob func87 W ntmps87 W<|dC [2] W<|DC.Hz (λs=> ∃K,MS c H (x.fV (List.replicate o none) a fr j) K/\s=⟨[nN 2 (a+o),nD 6 (.bm (sc T E C (m.map Xp.cells) F (bU b.kd b.op b.num b.nm b.names (b.kids.map Xp.cells) b.ps) (i.map bh.cells) D) 0),nN 4 j,nN 3 fr,nR 0 c.it],[],K⟩) ?_ ?_
 ·rcases Y with⟨rfl,rfl⟩|⟨rfl,rfl⟩|⟨h1,h2,rfl⟩
  ·refine dC [2,1] W<|DC.Hz (λs=> ∃K,MS c H (x.fV (List.replicate 1 none) a fr j) K/\s=⟨[nN 2 a,nD 6 (.bm (sc 2 E C (m.map Xp.cells) F (bU b.kd b.op b.num b.nm b.names (b.kids.map Xp.cells) b.ps) (i.map bh.cells) D) 0),nN 4 j,nN 3 fr,nR 0 c.it],[],K⟩) ?_ ?_
   ·rcases auM a fr with I|I
    ·have e1:decide (((a:Nat):Int)>=((fr:Nat):Int))=false:=avc (by omega);refine dO [2,28] W<|Po (aQ e1 W W W W)<|dL [0] W ?_;rw[show List.replicate 1 (none:Option Int)= [none]from rfl,pA (by omega)];exact⟨_,⟨H,MS.refl h,W⟩,cR W W⟩
    rcases auM a j with J|J
    rotate_left
    ·have e2:decide (((a:Nat):Int)<((j:Nat):Int))=false:=avc (by omega);refine dO [2,28] W<|Po (aQ (au5 (by omega)) W W W W)<|dR [32] W ?_
     first|refine Po (ax W W) ?_|(refine Po (av W) ?_;refine Po (aQ e2 W W W W) ?_)
     refine dL [0] W ?_;rw[show List.replicate 1 (none:Option Int)= [none]from rfl,pA (by omega)];exact⟨_,⟨H,MS.refl h,W⟩,cR W W⟩
    refine dO [2,28] W<|Po (aQ (au5 (by omega)) W W W W)<|dR [32] W ?_
    first|refine Po (ax W W) ?_|(refine Po (av W) ?_;refine Po (aQ (au5 (by omega)) W W W W) ?_)
    refine dL [1] W ?_;have L:=h.mem;have ac:=mo (n:=bW c.d) (f:=x.m) (k:=a) 0 (by omega);have v:=h.C8 (cg x.m a 0);have N:=v.mm.cu;have ah:=tN (n:=bW c.d) (f:=x.p) (k:=a) false (by omega);have w:=v.mm.Ej (cg x.p a false);have O:=w.mm.an;have co:=tP (n:=bW c.d) (f:=x.s) (ad:=c.ad) (k:=a) (by omega);have d6:=w.mm.Ek (cg x.s a none);rw[show List.replicate 1 (none:Option Int)= [none]from rfl,BJ I J];apply Ps bN
    ·intro s0 Oo;refine fR 3 W<|ay W W h.inst W<|fR 2 W<|ay W W h.unit W<|fR 4 W<|ay W W h.inst W<|fR 2 W<|ay W W h.unit W<|fR 4 W<|ay W W h.inst W<|fR 2 W<|ay W W h.unit W<|fR 1 W<|c_ W W W L (by omega) (by omega)<|fY W W L W W ac<|c_ W W W N (by omega) (by omega)<|fY W W N W W ah<|c_ W W W O (by omega) (by omega)<|fY W W O W W co<|TF.nil ⟨by kernel_rfl,rfl⟩
    exact⟨_,⟨_,(v.trans w).trans d6,W⟩,cR W W⟩
   rintro s ⟨K,l,rfl⟩;refine dO [2,62] W<|Po (az W W W (by omega))<|dL [] W<|⟨_,⟨K,l,rfl⟩,cR W W⟩
  ·refine dC [2,1] W<|DC.Hz (λs=> ∃K,MS c H (x.fV (List.replicate 1 none) a fr j) K/\s=⟨[nN 2 a,nD 6 (.bm (sc 4 E C (m.map Xp.cells) F (bU b.kd b.op b.num b.nm b.names (b.kids.map Xp.cells) b.ps) (i.map bh.cells) D) 0),nN 4 j,nN 3 fr,nR 0 c.it],[],K⟩) ?_ ?_
   ·rcases auM a fr with I|I
    ·have e1:decide (((a:Nat):Int)>=((fr:Nat):Int))=false:=avc (by omega);refine dO [2,28] W<|Po (aQ e1 W W W W)<|dL [0] W ?_;rw[show List.replicate 1 (none:Option Int)= [none]from rfl,pA (by omega)];exact⟨_,⟨H,MS.refl h,W⟩,cR W W⟩
    rcases auM a j with J|J
    rotate_left
    ·have e2:decide (((a:Nat):Int)<((j:Nat):Int))=false:=avc (by omega);refine dO [2,28] W<|Po (aQ (au5 (by omega)) W W W W)<|dR [32] W ?_
     first|refine Po (ax W W) ?_|(refine Po (av W) ?_;refine Po (aQ e2 W W W W) ?_)
     refine dL [0] W ?_;rw[show List.replicate 1 (none:Option Int)= [none]from rfl,pA (by omega)];exact⟨_,⟨H,MS.refl h,W⟩,cR W W⟩
    refine dO [2,28] W<|Po (aQ (au5 (by omega)) W W W W)<|dR [32] W ?_
    first|refine Po (ax W W) ?_|(refine Po (av W) ?_;refine Po (aQ (au5 (by omega)) W W W W) ?_)
    refine dL [1] W ?_;have L:=h.mem;have ac:=mo (n:=bW c.d) (f:=x.m) (k:=a) 0 (by omega);have v:=h.C8 (cg x.m a 0);have N:=v.mm.cu;have ah:=tN (n:=bW c.d) (f:=x.p) (k:=a) false (by omega);have w:=v.mm.Ej (cg x.p a false);have O:=w.mm.an;have co:=tP (n:=bW c.d) (f:=x.s) (ad:=c.ad) (k:=a) (by omega);have d6:=w.mm.Ek (cg x.s a none);rw[show List.replicate 1 (none:Option Int)= [none]from rfl,BJ I J];apply Ps bN
    ·intro s0 Oo;refine fR 3 W<|ay W W h.inst W<|fR 2 W<|ay W W h.unit W<|fR 4 W<|ay W W h.inst W<|fR 2 W<|ay W W h.unit W<|fR 4 W<|ay W W h.inst W<|fR 2 W<|ay W W h.unit W<|fR 1 W<|c_ W W W L (by omega) (by omega)<|fY W W L W W ac<|c_ W W W N (by omega) (by omega)<|fY W W N W W ah<|c_ W W W O (by omega) (by omega)<|fY W W O W W co<|TF.nil ⟨by kernel_rfl,rfl⟩
    exact⟨_,⟨_,(v.trans w).trans d6,W⟩,cR W W⟩
   rintro s ⟨K,l,rfl⟩;refine dO [2,62] W<|Po (az W W W (by omega))<|dL [] W<|⟨_,⟨K,l,rfl⟩,cR W W⟩
  ·have b1:=avs.2 h1;refine dO [2,20] W<|Po (aQ b1 W W W W)<|dR [24] W ?_
   first|refine Po (ax W W) ?_|(refine Po (av W) ?_;refine Po (aQ (avs.2 h2) W W W W) ?_)
   refine dL [0] W ?_;rw[show List.replicate 0 (none:Option Int)= []from rfl,Kp.wx];exact⟨_,⟨H,MS.refl h,W⟩,cR W W⟩
 rintro s ⟨K,l,rfl⟩;have QT: ∀r∈m.map Xp.cells,r.length=8:=by
  intro r P;obtain⟨e,_,rfl⟩:=ava.1 P;exact e.len
 refine dO [2,65] W<|Po (jf (n:=8) (cs:=bf [bU b.kd b.op b.num b.nm b.names (b.kids.map Xp.cells) b.ps]) W W W W W W)<|dR [68] W<|Po (fU (acc:=false) (cs:=bf [bU b.kd b.op b.num b.nm b.names (b.kids.map Xp.cells) b.ps]) W W W (by rw[auR (auK _),awV];rfl) (by rfl) (by exact QT) (by rw[au8];omega) (by rw[au8];omega)) ?_;refine dR [69] W<|Po (Hl W W)<|dL [] W ?_;have RO:(K++ [Ob.row false 8 0 (bf [bU b.kd b.op b.num b.nm b.names (b.kids.map Xp.cells) b.ps])]).set K.length (Ob.row false 8 1 (bf [bU b.kd b.op b.num b.nm b.names (b.kids.map Xp.cells) b.ps]++bf (m.map Xp.cells)))=K++ [Ob.row false 8 1 (bf (g.map Xp.cells))]:=by
  rw[Z,avY _ _ (auK _)];simp[bf]
 have ge:1+(m.map Xp.cells).length=g.length:=by rw[<-gc];simp;omega
 refine Pz [nN 66 0,nN 65 g.length,nM 64 (.bH K.length 1 g.length),nN 2 (a+o+aS ((g.take 0).map xP)),nD 6 (.bm (sc T E C (m.map Xp.cells) F (bU b.kd b.op b.num b.nm b.names (b.kids.map Xp.cells) b.ps) (i.map bh.cells) D) 0),nN 4 j,nN 3 fr,nR 0 c.it] (K++ [Ob.row false 8 1 (bf (g.map Xp.cells))]) (kc W (kc (by rw[<-ge];rfl) (kc (by rw[<-ge];rfl) W))) RO<|DC.El K.length (ec:=8) (aL:=1) (cs:=bf (g.map Xp.cells)) (by simp) ?_;have mt:(K++ [Ob.row false 8 1 (bf (g.map Xp.cells))]).set K.length (Ob.row true 8 1 (bf (g.map Xp.cells)))=K++ [Ob.row true 8 1 (bf (g.map Xp.cells))]:=by
  rw[avY _ _ (auK _)];simp
 rw[mt];refine DC.cw 64 (x:= .sl (g.map Xp.cells)) W (IX (n:=8) (rs:=g.map Xp.cells) (by simp) (by simp) (by rw[<-gc];simp) (by rw[Z];intro r P;rcases auX.1 P with rfl|P;rfl;exact QT r P)) ?_;have l:=l.trans (MS.grow l.mm (K:=K++ [Ob.row true 8 1 (bf (g.map Xp.cells))]) (by simp) (λrx hj=>by rw[auL hj]));generalize K++ [Ob.row true 8 1 (bf (g.map Xp.cells))]=K at l;refine dC [] W<|Qy (λs=> ∃K u,MS c H (x.fV (List.replicate o none++kF c.P.aJ g) a fr j) K/\s=⟨[nN 2 (a+o+aS (g.map xP)),nD 6 (.bm (sc T E C (m.map Xp.cells) F (bU b.kd b.op b.num b.nm b.names (b.kids.map Xp.cells) b.ps) (i.map bh.cells) D) 0),nN 4 j,nN 3 fr,nR 0 c.it],u,K⟩) ?_ ?_
 ·refine dC [3] W ?_;obtain⟨QC,pm⟩: ∃QC,QC=sc T E C (m.map Xp.cells) F (bU b.kd b.op b.num b.nm b.names (b.kids.map Xp.cells) b.ps) (i.map bh.cells) D:=⟨_,rfl⟩;rw[<-pm];refine DC.lp (λk X=> ∃(d:Nat) (u:List (Nat×List M)) (K:Hp),X=⟨[nN 66 d,nN 65 g.length,nD 64 (.sl (g.map Xp.cells)),nN 2 (a+o+aS ((g.take d).map xP)),nD 6 (.bm QC 0),nN 4 j,nN 3 fr,nR 0 c.it],u,K⟩/\MS c H (x.fV (List.replicate o none++kF c.P.aJ (g.take d)) a fr j) K/\d<=g.length/\k=g.length-d) g.length _
   ⟨0,_,K,rfl,by rw[show kF c.P.aJ (g.take 0)= []from rfl,avg];exact l,by omega,rfl⟩ W ?_
  rintro k s1 ⟨d,u,K,rfl,l,hi,rfl⟩;refine dC [2] W<|DC.cond W (λy=> ?_) (λy=> ?_)
  ·have p:d<g.length:=by have:=auV y;omega
   have z:(g.map Xp.cells)[((d:Nat):Int).toNat]?=some g[d].cells:=by simp[p]
   obtain⟨U,qr⟩:=gx xP p;obtain⟨S',A⟩:=V _ (avb p);have Q:=zU (en:=c.P.aJ) p;generalize g[d]=q at z S' A U Q;obtain⟨r2,K2,Tx,R⟩:=uZ c Re fr j VC q S' (a+o+aS ((g.take d).map xP)) (by omega) _ K l.mm;have S:=l.trans Tx;rw[show a+o+aS ((g.take d).map xP)=a+(List.replicate o (none:Option Int)++kF c.P.aJ (g.take d)).length by rw[auN,awj,vH];omega,<-Kp.rq,avh,<-Q]at S;rw[q.aC]at z R A;have Rc:((a+o+aS ((g.take d).map xP):Nat):Int)+((xP q:Nat):Int)=((a+o+aS ((g.take (d+1)).map xP):Nat):Int):=by omega
   refine dO [3,2,72] W<|Po (aG W W W (auJ d) z W)<|dR [2,79] W<|Po (aq R W W)<|dR [2,82] W<|Po (aE A W W)<|dR [83] W<|Po (az W W W (by omega)) ?_;rw[Rc];refine dR [2,84] W<|Po (az W W W (by omega))<|dL [] W<|bK (k':=g.length-(d+1)) (by omega) ⟨d+1,_,K2,rfl,S,by omega,rfl⟩ W W
  ·refine DC.exit ?_;have p:d=g.length:=by have:=au9 y;omega
   subst p;rw[avo]at l⊢;exact⟨_,⟨K,u,l,W⟩,cR W W⟩
 rintro s ⟨K,u,l,rfl⟩;obtain⟨t,UA⟩: ∃t,t=a+o+aS (g.map xP):=⟨_,rfl⟩;rw[<-UA];rw[<-f9]at B;have rg:a+(List.replicate o (none:Option Int)++kF c.P.aJ g).length=t:=by rw[auN,awj,vH,UA];omega
 generalize List.replicate o (none:Option Int)++kF c.P.aJ g=d7 at l rg⊢;have rt:(i.map bh.cells).length=i.length:=by simp
 refine dO [2,87] W<|Po (bp W W W) ?_;rw[rt];refine dL [] W<|Pz [nN 84 0,nN 83 i.length,nD 82 (.sl (i.map bh.cells)),nN 2 (t+aS ((i.take 0).map gb)),nN 4 j,nN 3 fr,nR 0 c.it] K W W<|dC [3] W<|DC.lp (λk X=> ∃(d:Nat) (u:List (Nat×List M)) (K:Hp),X=⟨[nN 84 d,nN 83 i.length,nD 82 (.sl (i.map bh.cells)),nN 2 (t+aS ((i.take d).map gb)),nN 4 j,nN 3 fr,nR 0 c.it],u,K⟩/\MS c H (x.fV (d7++ng c.P.aJ (i.take d)) a fr j) K/\d<=i.length/\k=i.length-d) i.length _
  ⟨0,_,K,rfl,by rw[show ng c.P.aJ (i.take 0)= []from rfl,avg];exact l,by omega,rfl⟩ W ?_
 rintro k s1 ⟨d,u,K,rfl,l,hi,rfl⟩;refine dC [2] W<|DC.cond W (λy=> ?_) (λy=> ?_)
 ·have p:d<i.length:=by have:=auV y;omega
  have z:(i.map bh.cells)[((d:Nat):Int).toNat]?=some i[d].cells:=by simp[p]
  obtain⟨U,qr⟩:=gx gb p;have A:=hP _ (avb p);have i6:=hA _ (avb p);have Q:=Gc (en:=c.P.aJ) p;generalize i[d]=q at z A U i6 Q;rw[oC]at U;obtain⟨r2,K2,Tx,R⟩:=i6 (t+aS ((i.take d).map gb)) (by omega) _ K l.mm;have S:=l.trans Tx;rw[show t+aS ((i.take d).map gb)=a+(d7++ng c.P.aJ (i.take d)).length by rw[auN,Gd];omega,<-Kp.rq,avh,<-Q]at S;rw[bj.aC]at A R;rw[bh.aC]at z;have Rc:((t+aS ((i.take d).map gb):Nat):Int)+((bP q.cy:Nat):Int)=((t+aS ((i.take (d+1)).map gb):Nat):Int):=by omega
  refine dO [3,2,90] W<|Po (aG W W W (auJ d) z W)<|dR [2,98] W<|Po (aq R W W)<|dR [2,102] W<|Po (aE A W W)<|dR [103] W<|Po (az W W W (by omega)) ?_;rw[Rc];refine dR [2,104] W<|Po (az W W W (by omega))<|dL [] W<|bK (k':=i.length-(d+1)) (by omega) ⟨d+1,_,K2,rfl,S,by omega,rfl⟩ W W
 ·refine DC.exit ?_;have p:d=i.length:=by have:=au9 y;omega
  subst p;rw[avo]at l;exact⟨_,W,l⟩
end Go.Proofs.Sz
