/- A part of the proof of the last text of this claim, without conditions. -/
import Derived.Test.YtbafhpblecdbbaaGreatDoorA
set_option maxRecDepth 4000
set_option linter.all false
namespace Go.Mt
theorem jf:∀(vs:List Value) (k off:Nat) (arr:Array Value),
  (vs.zipIdx k).foldl (λcs (x:Value×Nat)=>cs.setIfInBounds (off+x.2) x.1) arr=cS arr (off+k) vs
 |[],k,off,arr=>rfl
 |v::r,k,off,arr=>by
  rw[List.zipIdx_cons,List.foldl_cons,jf r (k+1) off];rfl
def dE(place:Nat->Option (Nat×Nat))(cs:List M):List (Nat×M)->Option (List M)
 |[]=>some cs
 |(i,m)::r=>match place i with
  |some (off,size)=>bif (Nat.beq (cellsOf m).length size&&m.lP)then(match cm cs off (cellsOf m)with
   |some FG=>dE place FG r
   |none=>none)else none
  |none=>none
theorem jo{σ:Sg}{place:Nat->Option (Nat×Nat)} :∀{parts:List (Nat×M)} {vs:List (Nat×Value)} {cs FG:List M} {arr:Array Value},eN σ cs arr->
  parts.length=vs.length->(∀(k:Nat) p q,parts[k]?=some p->vs[k]?=some q->p.1=q.1/\RM σ p.2 q.2)->dE place cs parts=some FG->
  ∃Gg,Instr.fill place arr vs=some Gg/\eN σ FG Gg
 |[],[],cs,FG,arr,h,_,_,hf=>by simp[dE]at hf;subst hf;exact⟨arr,rfl,h⟩
 |p::ps,q::qs,cs,FG,arr,h,hl,hp,hf=>by
  obtain⟨i,m⟩:=p;obtain⟨j,v⟩:=q;obtain⟨e1,e2⟩:=hp 0 _ _ rfl rfl;simp at e1 e2;subst e1;unfold dE at hf;split at hf
  ·rename_i off size Oy;cases hb:(Nat.beq (cellsOf m).length size&&m.lP)with
   |false=>simp[hb]at hf
   |true=>
    simp only[hb,cond_true]at hf;simp only[Bool.and_eq_true]at hb;have Gd:=Nat.eq_of_beq_eq_true hb.1;split at hf
    ·rename_i Ju hw;have hc:=e2.cells hb.2;obtain⟨h5,h6,h7⟩:=h.write hc hw;obtain⟨Gg,h8,h9⟩:=jo h5 (by simpa using hl) (λk p q a b=>hp (k+1) p q (by simpa using a) (by simpa using b)) hf;refine⟨Gg,?_,h9⟩;unfold Instr.fill;simp only[Oy];have PA:v.cells.size=size:=by rw[hc.1,Gd]
     have NA:¬(off+v.cells.size>arr.size):=by rw[hc.1,h.1];omega
     rw[if_neg (by simp[PA];rw[PA]at NA;omega)];have:v.cells.zipIdx.foldl (λcs (x:Value×Nat)=>cs.setIfInBounds (off+x.2) x.1) arr=cS arr off v.cells.toList:=by
      rw[<-Array.foldl_toList,Array.toList_zipIdx,jf];rfl
     rw[<-this]at h8;exact h8
    ·cases hf
  ·cases hf
 |[],_::_,_,_,_,_,hl,_,_=>by simp at hl
 |_::_,[],_,_,_,_,hl,_,_=>by simp at hl
def pF(P:Program)(t:Nat):Option (List (Nat×Nat)):=
 match P.underlying t with
 |some (.struct fields)=>fields.toList.mapM λf=>(cz P f.type).map λn=>(f.offset,n)
 |_=>none
class cp(P:Program)(t:Nat)(places:outParam (List (Nat×Nat)))(z:outParam (List D)):Prop where
 places:pF P t=some places
 zero:fC P t=some (.agg z)
theorem oH{P:Program}{w:World} :∀{fs:List Field} {ps:List (Nat×Nat)},(fs.mapM λf=>(cz P f.type).map λn=>(f.offset,n))=some ps->
  (fs.mapM λf=>(do pure (f.offset,<-sizeOf f.type):Sem (Nat×Nat))).run P w=.ok ps w
 |[],ps,h=>by simp at h;subst h;simp
 |f::fs,ps,h=>by
  rw[List.mapM_cons]at h;cases hs:cz P f.type with
  |none=>simp[hs]at h
  |some n=>
   simp only[hs,Option.map_some,Option.bind_eq_bind,Option.bind_some]at h;cases hr:(fs.mapM λf=>(cz P f.type).map λn=>(f.offset,n))with
   |none=>simp[hr]at h
   |some T5=>
    simp[hr]at h;subst h;rw[List.mapM_cons];simp only[Sem.run_bind,bF hs,Result.andThen_ok,Sem.run_pure,oH hr]
def bZ(st:St):List (Nat×Operand)->Option (List (Nat×M))
 |[]=>some []
 |(i,x)::r=>match st.ev x,bZ st r with
  |some (.m m),some ms=>some ((i,m)::ms)
  |_,_=>none
section ops
variable{X:bq}{st:St}{dst:Option Nat}{ty:Nat}{pos:String}{af:Array Edge}{g:Option (Nat×Bool)}
theorem bb.bZ{σ:Sg}{FC:Nat->Nat}{a:Act}(hi:bb X σ FC st a):∀{xs:List (Nat×Operand)} {ms:List (Nat×M)},bZ st xs=some ms->
  ms.length=(xs.map λp=>(p.1,a.eval p.2)).length/\∀(k:Nat) p q,ms[k]?=some p->(xs.map λp=>(p.1,a.eval p.2))[k]?=some q->p.1=q.1/\RM σ p.2 q.2
 |[],ms,h=>by simp[Mt.bZ]at h;subst h;simp
 |(i,x)::r,ms,h=>by
  simp only[Mt.bZ]at h;split at h
  ·rename_i m Jb h1 h2;injection h with h;subst h
   obtain⟨h3,h5⟩:=hi.bZ h2;have h4:=hi.ev h1;refine⟨by simpa using h3,λk p q hp hq=>?_⟩;cases k with
   |zero=>simp at hp hq;subst hp;subst hq;cases h4 with|m h=>exact⟨rfl,h⟩
   |succ k=>simp at hp;exact h5 k p q hp (by simpa using hq)
  ·cases h
theorem kD{T:Nat}{parts:List (Nat×Operand)}{ps:List (Nat×Nat)}{z:List D}{ms:List (Nat×M)}{cs:List M}[ht:cp X.P T ps z](he:bZ st parts=some ms)
  (hf:dE (λi=>ps[i]?) (z.map .d) ms=some cs):aK X ⟨dst,.build T parts.toArray,ty,pos,af,g⟩ st (bt (.m (pack cs)) st):=by
 refine aK.quiet λa σ FC hi=>?_
 obtain⟨h1,h2⟩:=hi.bZ he;have hz:∃v,(∀w,(zeroValue T).run X.P w=.ok v w)/\jZ v=some (.agg z):=(bA ht.zero).run;obtain⟨v,GK,GO⟩:=hz;have hc:eN σ (z.map .d) v.cells:=(RM.d (bW GO):RM σ (.d (.agg z)) v).cells rfl;obtain⟨Gg,h3,h4⟩:=jo hc h1 h2 hf;refine⟨.agg Gg,?_,.m ?_⟩
 ·have hp:=ht.places;unfold pF at hp;split at hp
  ·rename_i fields hu;have hm:=oH (w:=σ.w) hp;have Lv:(fields.mapM λf=>(do pure (f.offset,<-sizeOf f.type):Sem (Nat×Nat))).run X.P σ.w=.ok ps.toArray σ.w:=by
    rw[Array.mapM_eq_mapM_toList];simp only[Functor.map,Sem.run_bind'];rw[hm];rfl
   simp only[execOp,Instr.build];simp only[Sem.run_bind,GK,Result.andThen_ok,underlying,program,Sem.run,hu,Sem.run_pure];simp only[Lv,Result.andThen_ok];have:(Array.map (λx:Nat×Operand=>match x with|(i,x)=>(i,a.eval x)) parts.toArray).toList=parts.map λp=>(p.1,a.eval p.2):=by simp
   simp only[this];have Oy:(λi:Nat=>ps.toArray[i]?)= λi:Nat=>ps[i]?:=by funext i;simp
   rw[Oy,h3];simp
  ·cases hp
 ·unfold pack;split
  ·rename_i ds hd;have:=h_.cT ⟨h4.1,λi m v a b=>(h4.2 i m v a b).1⟩ hd;exact .d (.agg ds _ this.1 h4.flat this.2)
  ·exact .agg _ _ h4.1 h4.flat (λi m v a b=>(h4.2 i m v a b).1)
def cq(n len:Nat)(z:List D):List M:=(List.range (len*n)).map λi=>.d (z.getD (i%z.length) default)
theorem iU{n:Nat} :∀{k:Nat} {cs:List M} {rows:List (List D)},chunk n k cs=some rows->cs.length=k*n->
  rows.length=k/\(∀r∈rows,r.length=n)/\∀(i j:Nat) r d,rows[i]?=some r->r[j]?=some d->cs[i*n+j]?=some (.d d)
 |0,[],rows,h,_=>by simp[chunk]at h;subst h;simp
 |0,_::_,rows,h,_=>by simp[chunk]at h
 |k+1,cs,rows,h,hl=>by
  unfold chunk at h;split at h
  ·rename_i r rs h1 h2;injection h with h;subst h
   have GC:(cs.drop n).length=k*n:=by simp[hl,Nat.succ_mul]
   obtain⟨h3,h4,h5⟩:=iU h2 GC;have h6:=nK h1;have IV:r.length=n:=by
    have:=congrArg List.length h6;simp at this;rw[hl,Nat.succ_mul]at this;omega
   refine⟨by simp[h3],?_,?_⟩
   ·intro x hx;simp at hx;rcases hx with rfl|hx
    ·exact IV
    ·exact h4 x hx
   ·intro i j x d hx hd;cases i with
    |zero=>
     simp at hx;subst hx;have hj:j<n:=by rw[<-IV];rcases Nat.lt_or_ge j r.length with h|h;exact h;simp[List.getElem?_eq_none h]at hd
     have:(cs.take n)[j]?=some (.d d):=by rw[h6];simp[hd]
     rw[List.getElem?_take_of_lt hj]at this;simpa using this
    |succ i=>
     simp at hx;have:=h5 i j x d hx hd;rw[List.getElem?_drop]at this;have e:(i+1)*n+j=n+(i*n+j):=by rw[Nat.succ_mul];omega
     rw[e];exact this
  ·cases h
theorem dI.Bw{O:Nat->Nat->Prop}{w:World}{n k T:Nat}{rows:List (List D)}{arr:Array Value}(hn:0<n)(hO:∀b o,O b o->b<w.heap.size)(hk:rows.length=k)(IV:∀r∈rows,r.length=n)
  (Gd:arr.size=k*n) (FZ:k<=140737488355328) (h:∀(i j:Nat) r d v,rows[i]?=some r->r[j]?=some d->arr[i*n+j]?=some v->dI O w d v/\flat v=true):
  dI O {w with heap:=w.heap.push (.cells arr T (0,0))} (.sl rows) (.slice (some ⟨w.heap.size,0,none⟩) k k):=by
 subst hk;by_cases h0:rows=[]
 ·subst h0;exact .slnil _
 ·have FJ:∀i j,i<rows.length->j<n->i*n+j<arr.size:=by
   intro i j hi hj;rw[Gd]
   calc i*n+j<i*n+n:=by omega
    _=(i+1)*n:=by rw[Nat.succ_mul]
    _<=rows.length*n:=Nat.mul_le_mul_right _ hi
  refine .sl rows w.heap.size 0 rows.length n (λi j=>arr.getD (i*n+j) undef) h0 (Nat.le_refl _) FZ IV ?_ ?_ ?_
  ·intro i j hi hj;refine⟨?_,λhh=>by have:=hO _ _ hh;omega⟩;rw[Nat.zero_add,r6];simp[FJ i j hi hj]
  ·intro i j hi hj;have hr:rows[i].length=n:=IV _ (List.getElem_mem hi);exact(h i j rows[i] (rows[i])[j] _ (by simp[hi]) (by simp[hr,hj]) (by simp[FJ i j hi hj])).2
  ·intro i j r d hr hd;have hi:i<rows.length:=by rcases Nat.lt_or_ge i rows.length with h|h;exact h;simp[List.getElem?_eq_none h]at hr
   have hj:j<n:=by
    rw[<-IV r (List.mem_of_getElem? hr)];rcases Nat.lt_or_ge j r.length with h|h;exact h;simp[List.getElem?_eq_none h]at hd
   have:=(h i j r d (arr.getD (i*n+j) undef) hr hd (by simp[FJ i j hi hj])).1;exact this.mono λb o v h1 h2=>⟨(dq.alloc w _).cell h1,h2⟩
theorem sn{T e n len:Nat}{parts:List (Nat×Operand)}{z:D}{ms:List (Nat×M)}{cs:List M}{rows:List (List D)}[ht:aL X.P T e][hs:bh X.P e n][hz:dt X.P e z]
  (hn:Nat.blt 0 n=true) (Ga:(aN z).length=n) (hle:Nat.ble (len*n) 16777216=true) (he:bZ st parts=some ms)
  (hf:dE (λi=>some (i*n,n)) (cq n len (aN z)) ms=some cs) (KG:chunk n len cs=some rows):
  aK X ⟨dst,.buildSlice T len parts.toArray,ty,pos,af,g⟩ st (bt (.m (.d (.sl rows))) st):=by
 refine aK.grow λa σ FC hi=>?_
 have Gt:=aQ hn;have Mq:=Nat.le_of_ble_eq_true hle;obtain⟨h1,h2⟩:=hi.bZ he;obtain⟨v,GK,GO⟩:=(bA hz.zero).run;have HA:eN σ ((aN z).map .d) v.cells:=(RM.d (bW GO):RM σ (.d z) v).cells rfl;have GR:v.cells.size=n:=by rw[HA.1];simpa using Ga
 have hc:eN σ (cq n len (aN z)) ((Array.range (len*n)).map λi=>v.cells[i%v.cells.size]!):=by
  refine⟨by simp[cq],λi m u hm hu=>?_⟩;have FL:i<len*n:=by
   rcases Nat.lt_or_ge i (len*n)with h|h
   ·exact h
   ·rw[Array.getElem?_eq_none (by simpa using h)]at hu;cases hu
  have LX:i%n<n:=Nat.mod_lt _ Gt;have IW:i%n<(aN z).length:=by omega
  simp[cq,FL,Ga]at hm;simp[FL,GR]at hu;have FJ:i%n<v.cells.size:=by omega
  subst hm;subst hu;refine HA.2 (i%n) _ _ ?_ ?_
  ·simp[List.getElem?_eq_getElem IW]
  ·simp[FJ]
 obtain⟨Gg,h3,h4⟩:=jo hc h1 h2 hf;have hlen:cs.length=len*n:=by
  have HY:∀{ps:List (Nat×M)} {a b:List M},dE (λi=>some (i*n,n)) a ps=some b->b.length=a.length:=by
   intro ps
   induction ps with
   |nil=>intro a b h;simp[dE]at h;subst h;rfl
   |cons p ps ih=>
    intro a b h;obtain⟨i,m⟩:=p;unfold dE at h;simp only at h;cases hb:(Nat.beq (cellsOf m).length n&&m.lP)with
    |false=>simp[hb]at h
    |true=>
     simp only[hb,cond_true]at h;split at h
     ·rename_i a1 hw;rw[ih h];unfold cm at hw;cases Gs:Nat.ble (i*n+(cellsOf m).length) a.length with
      |false=>simp[Gs]at hw
      |true=>
       simp only[Gs,cond_true,Option.some.injEq]at hw;subst hw;have:=Nat.le_of_ble_eq_true Gs;simp;omega
     ·cases h
  rw[HY hf];simp[cq]
 obtain⟨h5,h6,h7⟩:=iU KG hlen;have Kw:Gg.size=len*n:=by rw[h4.1,hlen]
 refine⟨.slice (some ⟨σ.w.heap.size,0,none⟩) len len,{σ.w with heap:=σ.w.heap.push (.cells Gg e (0,0))},?_,dq.alloc _ _,.m (.d (dI.Bw Gt hi.hinv.wx h5 h6 Kw (by have:=Nat.le_mul_of_pos_right len Gt;omega) ?_))⟩
 ·have:(Array.map (λx:Nat×Operand=>match x with|(i,x)=>(i,a.eval x)) parts.toArray).toList=parts.map λp=>(p.1,a.eval p.2):=by simp
  have Ms:¬(len*n>2^24):=by omega
  by_cases HZ:len*n=0
  ·have Jc:len=0:=by
    rcases Nat.mul_eq_zero.1 HZ with h|h
    ·exact h
    ·omega
   subst Jc;have HR:((Array.range (0*n)).map λi=>v.cells[i%v.cells.size]!)= #[]:=by simp
   rw[HR]at h3;simp only[execOp,Instr.buildSlice,Sem.run_bind,underlying,program,Sem.run,ht.u,Sem.run_pure,Result.andThen_ok,bF hs.size,Sem.run_ite,HZ,if_true,this];have e0:Array.range 0=(#[]:Array Nat):=by decide
   simp only[e0,Array.map_empty];rw[h3];simp[newRow,newObj,Sem.run]
  ·simp only[execOp,Instr.buildSlice,Sem.run_bind,underlying,program,Sem.run,ht.u,Sem.run_pure,Result.andThen_ok,bF hs.size,Sem.run_ite,Ms,if_false,HZ,GK,this];rw[h3];simp[newRow,newObj,Sem.run]
 ·intro i j r d u hr hd hu;have:=h4.2 _ _ u (h7 i j r d hr hd) hu;refine⟨?_,this.2⟩;cases this.1 with
  |d h=>exact h
end ops
def wr:List M->Nat->List M->Option (List M)
 |cs,0,[]=>some cs
 |_::cs,0,n::new=>match wr cs 0 new with
  |some r=>some (n::r)
  |none=>none
 |c::cs,off+1,new=>match wr cs off new with
  |some r=>some (c::r)
  |none=>none
 |_,_,_=>none
theorem kr:∀{cs:List M} {off:Nat} {new FG:List M},wr cs off new=some FG->cm cs off new=some FG
 |cs,0,[],FG,h=>by
  simp[wr]at h;subst h;have:Nat.ble 0 cs.length=true:=Nat.ble_eq_true_of_le (Nat.zero_le _);simp[cm,this]
 |c::cs,0,n::new,FG,h=>by
  simp only[wr]at h;cases hr:wr cs 0 new with
  |none=>simp[hr]at h
  |some r=>
   simp[hr]at h;subst h;have ih:=kr hr;unfold cm at ih⊢;cases hb:Nat.ble (0+new.length) cs.length with
   |false=>rw[hb]at ih;cases ih
   |true=>
    have h1:=Nat.le_of_ble_eq_true hb;have Gs:Nat.ble (0+(n::new).length) (c::cs).length=true:=Nat.ble_eq_true_of_le (by simp;omega);simp only[hb,cond_true,Option.some.injEq]at ih;simp only[Gs,cond_true,Option.some.injEq];simp at ih⊢;exact ih
 |c::cs,off+1,new,FG,h=>by
  have h':(match wr cs off new with|some r=>some (c::r)|none=>none)=some FG:=by
   cases new<;>simpa [wr] using h
  cases hr:wr cs off new with
  |none=>simp[hr]at h'
  |some r=>
   simp[hr]at h';subst h';have ih:=kr hr;unfold cm at ih⊢;cases hb:Nat.ble (off+new.length) cs.length with
   |false=>simp[hb]at ih
   |true=>
    have h1:=Nat.le_of_ble_eq_true hb;have Gs:Nat.ble (off+1+new.length) (c::cs).length=true:=Nat.ble_eq_true_of_le (by simp;omega);simp only[hb,cond_true,Option.some.injEq]at ih;simp only[Gs,cond_true,Option.some.injEq];have e:off+1+new.length=(off+new.length)+1:=by omega
    rw[e,List.take_succ_cons,List.drop_succ_cons,List.cons_append,List.cons_append,ih]
 |[],0,_::_,FG,h=>by simp[wr]at h
 |[],_+1,new,FG,h=>by cases new<;>simp[wr]at h
def sub{α:Type} :List α->Nat->Nat->Option (List α)
 |_,0,0=>some []
 |c::cs,0,n+1=>match sub cs 0 n with
  |some r=>some (c::r)
  |none=>none
 |_::cs,off+1,n=>sub cs off n
 |[],_,_=>none
theorem sub_eq{α:Type} :∀{cs:List α} {off n:Nat} {ds:List α},sub cs off n=some ds->off+n<=cs.length/\(cs.drop off).take n=ds
 |cs,0,0,ds,h=>by simp[sub]at h;subst h;simp
 |c::cs,0,n+1,ds,h=>by
  simp only[sub]at h;cases hr:sub cs 0 n with
  |none=>simp[hr]at h
  |some r=>
   simp[hr]at h;subst h;obtain⟨h1,h2⟩:=sub_eq hr;refine⟨by simp;omega,?_⟩;simp at h2⊢;exact h2
 |c::cs,off+1,n,ds,h=>by
  have h':sub cs off n=some ds:=by cases n<;>simpa [sub] using h
  obtain⟨h1,h2⟩:=sub_eq h';exact⟨by simp;omega,by simpa using h2⟩
 |[],0,n+1,ds,h=>by simp[sub]at h
 |[],off+1,n,ds,h=>by cases n<;>simp[sub]at h
def kE:List D->Option (List M)
 |[]=>some []
 |d::r=>match kE r with
  |some ms=>some (.d d::ms)
  |none=>none
theorem kF:∀{ds:List D} {ms:List M},kE ds=some ms->ms=ds.map .d
 |[],ms,h=>by simp[kE]at h;subst h;rfl
 |d::r,ms,h=>by
  simp only[kE]at h;cases hr:kE r with
  |none=>simp[hr]at h
  |some x=>simp[hr]at h;subst h;simp[kF hr]
def dJ:M->Option (List M)
 |.d (.agg ds)=>kE ds
 |.agg cs=>some cs
 |.undef=>none
 |.bz _=>none
 |m=>some [m]
theorem bQ{m:M}{cs:List M}(h:dJ m=some cs):cellsOf m=cs/\m.lP=true:=by
 unfold dJ at h;split at h
 ·rename_i ds;rw[kF h];exact⟨rfl,rfl⟩
 ·injection h with h;subst h;exact⟨rfl,rfl⟩
 ·cases h
 ·cases h
 ·rename_i h1 h2 h3 h4;injection h with h;subst h
  cases m with
  |d x=>cases x<;>first|exact⟨rfl,rfl⟩|exact absurd rfl (h1 _)
  |undef=>exact absurd rfl h3
  |bz vs=>exact absurd rfl (h4 _)
  |agg cs=>exact absurd rfl (h2 _)
  |_=>exact⟨rfl,rfl⟩
def gU(ps:List (Nat×Nat))(cs:List M):List (Nat×M)->Option (List M)
 |[]=>some cs
 |(i,m)::r=>match ps[i]?,dJ m with
  |some (off,size),some new=>bif Nat.beq new.length size then(match wr cs off new with
   |some FG=>gU ps FG r
   |none=>none)else none
  |_,_=>none
theorem jp{ps:List (Nat×Nat)} :∀{parts:List (Nat×M)} {cs FG:List M},gU ps cs parts=some FG->dE (λi=>ps[i]?) cs parts=some FG
 |[],cs,FG,h=>by simpa [gU,dE] using h
 |(i,m)::r,cs,FG,h=>by
  simp only[gU]at h;split at h
  ·rename_i off size new h1 h2;obtain⟨h3,h4⟩:=bQ h2;cases hb:Nat.beq new.length size with
   |false=>simp[hb]at h
   |true=>
    simp only[hb,cond_true]at h;split at h
    ·rename_i Ju hw;simp only[dE,h1,h3,h4,hb,Bool.and_self,cond_true,kr hw];exact jp h
    ·cases h
  ·cases h
def fc:Nat->List (Nat×M)->Option (List (List D))
 |_,[]=>some []
 |k,(i,.d d)::r=>bif Nat.beq i k then(match fc (k+1) r with
  |some rs=>some (aN d::rs)
  |none=>none)else none
 |_,_=>none
def eW(sl:List (Nat×V)):List (Nat×Operand)->Option (List (Nat×M))
 |[]=>some []
 |(i,x)::r=>match ba sl x,eW sl r with
  |some (.m m),some ms=>some ((i,m)::ms)
  |_,_=>none
theorem eF{sl:List (Nat×V)}{bx:List (Nat×List M)}{H:Hp} :∀{ps:List (Nat×Operand)},bZ ⟨sl,bx,H⟩ ps=eW sl ps
 |[]=>rfl
 |(i,x)::r=>by simp only[bZ,eW,eF (ps:=r)];rfl
theorem nP{n:Nat}(hn:0<n):∀{ms:List (Nat×M)} {k:Nat} {rows:List (List D)} {pre I5:List M},fc k ms=some rows->(∀r∈rows,r.length=n)->pre.length=k*n->I5.length=ms.length*n->
  dE (λi=>some (i*n,n)) (pre++I5) ms=some (pre++(rows.map λr=>r.map M.d).flatten)/\rows.length=ms.length
 |[],k,rows,pre,I5,h,_,_,hs=>by
  simp[fc]at h;subst h;simp at hs;subst hs;simp[dE]
 |(i,m)::r,k,rows,pre,I5,h,hl,hp,hs=>by
  cases m with
  |d d=>
   simp only[fc]at h;cases hb:Nat.beq i k with
   |false=>simp[hb]at h
   |true=>
    have:=Nat.eq_of_beq_eq_true hb;subst this;simp only[hb,cond_true]at h;split at h
    ·rename_i rs hr;injection h with h;subst h
     have Lw:(aN d).length=n:=hl _ (by simp);have JV:n<=I5.length:=by rw[hs];simp[Nat.succ_mul]
     have FX:(cellsOf (.d d)).length=n:=by simp[cellsOf,Lw]
     have hw:cm (pre++I5) (i*n) (cellsOf (.d d))=some ((pre++cellsOf (.d d))++I5.drop n):=by
      unfold cm;have PB:Nat.ble (i*n+(cellsOf (.d d)).length) (pre++I5).length=true:=Nat.ble_eq_true_of_le (by simp[FX];omega);rw[PB];have e1:List.take (i*n) (pre++I5)=pre:=by rw[<-hp];simp
      have e2:List.drop (i*n+n) (pre++I5)=List.drop n I5:=by
       rw[<-hp,List.drop_append,List.drop_eq_nil_of_le (by omega)];simp
      simp only[cond_true,FX,e1,e2]
     obtain⟨h1,h2⟩:=nP hn (k:=i+1) (pre:=pre++cellsOf (.d d)) (I5:=I5.drop n) hr (λr hr=>hl r (by simp[hr])) (by simp[hp,FX,Nat.succ_mul]) (by simp[hs,Nat.succ_mul]);refine⟨?_,by simp[h2]⟩;unfold dE;have Rs:Nat.beq (cellsOf (.d d)).length n=true:=by rw[FX];exact Nat.beq_refl n
     simp only[Rs,M.lP,Bool.and_self,cond_true,hw];rw[h1];simp[cellsOf]
    ·cases h
  |_=>simp[fc]at h
theorem j9{n:Nat} :∀{rows:List (List D)},(∀r∈rows,r.length=n)->chunk n rows.length (rows.map λr=>r.map M.d).flatten=some rows
 |[],_=>rfl
 |r::rs,h=>by
  have hr:r.length=n:=h r (by simp);have Rt:∀l:List D,cT (l.map .d)=some l:=by
   intro l;induction l with
   |nil=>rfl
   |cons x l ih=>simp[cT,ih]
  have ih:=j9 (n:=n) (rows:=rs) (λr hr=>h r (by simp[hr]));show chunk n (rs.length+1) ((r.map M.d)++(rs.map λr=>r.map M.d).flatten)=_;unfold chunk;have e1:((r.map M.d)++(rs.map λr=>r.map M.d).flatten).take n=r.map M.d:=by
   rw[List.take_append_of_le_length (by simp[hr])];rw[List.take_of_length_le (by simp[hr])]
  have e2:((r.map M.d)++(rs.map λr=>r.map M.d).flatten).drop n=(rs.map λr=>r.map M.d).flatten:=by
   rw[List.drop_append_of_le_length (by simp[hr])];rw[List.drop_of_length_le (by simp[hr])];rfl
  rw[e1,e2,Rt,ih]
def fe(n:Nat):List (List D)->Bool
 |[]=>true
 |r::rs=>Nat.beq r.length n&&fe n rs
theorem jD{n:Nat} :∀{rows:List (List D)},fe n rows=true->∀r∈rows,r.length=n
 |[],_,r,hr=>by cases hr
 |x::rs,h,r,hr=>by
  simp only[fe,Bool.and_eq_true]at h;cases hr with
  |head=>exact Nat.eq_of_beq_eq_true h.1
  |tail _ hr=>exact jD h.2 r hr
def dX(sl:List (Nat×V)):List Operand->Option (List D)
 |[]=>some []
 |x::r=>match ba sl x,dX sl r with
  |some (.m (.d d)),some ds=>some (d::ds)
  |_,_=>none
def cE(sl:List (Nat×V)):List Operand->Option (List M)
 |[]=>some []
 |x::r=>match ba sl x,cE sl r with
  |some (.m m),some ds=>some (m::ds)
  |_,_=>none
theorem kG{sl:List (Nat×V)}{bx:List (Nat×List M)}{H:Hp} :∀{ps:List Operand},(⟨sl,bx,H⟩:St).dX ps=dX sl ps
 |[]=>rfl
 |x::r=>by simp only[St.dX,dX,kG (ps:=r)];rfl
theorem oI{sl:List (Nat×V)}{bx:List (Nat×List M)}{H:Hp} :∀{ps:List Operand},(⟨sl,bx,H⟩:St).cE ps=cE sl ps
 |[]=>rfl
 |x::r=>by simp only[St.cE,cE,oI (ps:=r)];rfl
section rules
variable{X:bq}{ops:Array Oper}{rest:List Oper}{post:St->Prop}{sl:List (Nat×V)}{bx:List (Nat×List M)}{H:Hp}{d ty:Nat}{pos:String}{af:Array Edge}
theorem TL.o1{o:Oper}{v:V}{Gy:List (Nat×V)}{Jv:List (Nat×List M)}{H':Hp}(hg:o.guard=none)(hd:o.dst=some d)(hn:Nat.blt d X.n=true)(h:aK X o ⟨sl,bx,H⟩ (bt v ⟨Gy,Jv,H'⟩))
  (k:TL X ops rest ⟨(d,v)::Gy,Jv,H'⟩ post):TL X ops (o::rest) ⟨sl,bx,H⟩ post:=
 TL.E3 (by simp[ea,hg]) hd hn h k
theorem aE{dst:Option Nat}{op:Op}{j:Nat}{w:Bool}(hw:ea ops ⟨dst,op,ty,pos,af,some (j,w)⟩ ⟨sl,bx,H⟩=some true)
  (k:TL X ops (⟨dst,op,ty,pos,af,none⟩::rest) ⟨sl,bx,H⟩ post):TL X ops (⟨dst,op,ty,pos,af,some (j,w)⟩::rest) ⟨sl,bx,H⟩ post:=by
 rintro a w' ⟨σ,FC,Ki,hi⟩;have:=k a w' ⟨σ,FC,Ki,hi⟩;unfold wpList at this⊢;rw[if_pos (hi.wanted hw)];rw[if_pos (by simp[Region.wanted])]at this;have e:∀g:Option (Nat×Bool),execOp a.eval ⟨dst,op,ty,pos,af,g⟩=execOp a.eval ⟨dst,op,ty,pos,af,none⟩:=by
  intro g;cases op<;>rfl
 rcases this with this|⟨h1,h2⟩
 ·left;unfold Oper.wp at this⊢;rw[e];exact this
 ·right;refine⟨?_,h2⟩;unfold Oper.asks at h1⊢;rw[e];exact h1
theorem fb{op:Op}{j:Nat}{w:Bool}(hw:ea ops ⟨some d,op,ty,pos,af,some (j,w)⟩ ⟨sl,bx,H⟩=some false)(hn:Nat.blt d X.n=true)
  (k:TL X ops rest ⟨(d,.m (.bz []))::sl,bx,H⟩ post):TL X ops (⟨some d,op,ty,pos,af,some (j,w)⟩::rest) ⟨sl,bx,H⟩ post:=
 TL.skip hw rfl hn k
theorem ah{x:Operand}{v:V}(hn:Nat.blt d X.n=true)(hx:ba sl x=some v)(k:TL X ops rest ⟨(d,v)::sl,bx,H⟩ post):TL X ops (⟨some d,.move x,ty,pos,af,none⟩::rest) ⟨sl,bx,H⟩ post:=
 TL.o1 rfl rfl hn (rZ hx) k
theorem aa{x:Operand}{v:V}(hn:Nat.blt d X.n=true)(hx:ba sl x=some v)(k:TL X ops rest ⟨(d,v)::sl,bx,H⟩ post):TL X ops (⟨some d,.assign x,ty,pos,af,none⟩::rest) ⟨sl,bx,H⟩ post:=
 TL.o1 rfl rfl hn (nk hx) k
theorem fE{c x y:Operand}{b:Bool}{v:V}(hn:Nat.blt d X.n=true)(hc:ba sl c=some (.m (.d (.bool b))))(hx:ba sl (bif b then x else y)=some v)(k:TL X ops rest ⟨(d,v)::sl,bx,H⟩ post):
  TL X ops (⟨some d,.pick c x y,ty,pos,af,none⟩::rest) ⟨sl,bx,H⟩ post:=by
 cases b
 ·exact TL.o1 rfl rfl hn (nr hc hx) k
 ·exact TL.o1 rfl rfl hn (nq hc hx) k
theorem ak{op:BinOp}{xt yt:Nat}{x y:Operand}{kk:IntKind}{m n:Int}{r:D}(hn:Nat.blt d X.n=true)(hx:ba sl x=some (.m (.d (.int kk m))))(hy:ba sl y=some (.m (.d (.int kk n))))
  (hr:iK op kk m n=some r) (k:TL X ops rest ⟨(d,.m (.d r))::sl,bx,H⟩ post):TL X ops (⟨some d,.binOp op xt x y yt,ty,pos,af,none⟩::rest) ⟨sl,bx,H⟩ post:=
 TL.o1 rfl rfl hn (vk hx hy hr) k
theorem aV{xt yt:Nat}{x y:Operand}{m n:Int}(hn:Nat.blt d X.n=true)(hx:ba sl x=some (.m (.d (.int .i64 m))))(hy:ba sl y=some (.m (.d (.int .i64 n))))
  (hr: -9223372036854775808<=m+n/\m+n<=9223372036854775807) (k:TL X ops rest ⟨(d,.m (.d (.int .i64 (m+n))))::sl,bx,H⟩ post):TL X ops (⟨some d,.binOp .add xt x y yt,ty,pos,af,none⟩::rest) ⟨sl,bx,H⟩ post:=by
 refine ak hn hx hy (r:=.int .i64 (m+n)) ?_ k;have:IntKind.i64.wrap (m+n)=m+n:=IntWalk.i64_in _ hr;simp[iK,this]
theorem iV{xt yt:Nat}{x y:Operand}{m n:Int}(hn:Nat.blt d X.n=true)(hx:ba sl x=some (.m (.d (.int .i64 m))))(hy:ba sl y=some (.m (.d (.int .i64 n))))
  (hr: -9223372036854775808<=m-n/\m-n<=9223372036854775807) (k:TL X ops rest ⟨(d,.m (.d (.int .i64 (m-n))))::sl,bx,H⟩ post):TL X ops (⟨some d,.binOp .sub xt x y yt,ty,pos,af,none⟩::rest) ⟨sl,bx,H⟩ post:=by
 refine ak hn hx hy (r:=.int .i64 (m-n)) ?_ k;have:IntKind.i64.wrap (m-n)=m-n:=IntWalk.i64_in _ hr;simp[iK,this]
theorem vp{xt yt:Nat}{x y:Operand}{kk:IntKind}{m n:Int}(hn:Nat.blt d X.n=true)(hx:ba sl x=some (.m (.d (.int kk m))))(hy:ba sl y=some (.m (.d (.int kk n))))
  (hr:(n==0)=false) (k:TL X ops rest ⟨(d,.m (.d (.int kk (m.tmod n))))::sl,bx,H⟩ post):TL X ops (⟨some d,.binOp .rem xt x y yt,ty,pos,af,none⟩::rest) ⟨sl,bx,H⟩ post:=
 TL.o1 rfl rfl hn (zo hx hy hr) k
theorem iZ{x:Operand}{xt:Nat}{b:Bool}(hn:Nat.blt d X.n=true)(hx:ba sl x=some (.m (.d (.bool b))))(k:TL X ops rest ⟨(d,.m (.d (.bool (!b))))::sl,bx,H⟩ post):
  TL X ops (⟨some d,.unOp .not xt x,ty,pos,af,none⟩::rest) ⟨sl,bx,H⟩ post:=
 TL.o1 rfl rfl hn (vl hx) k
theorem wC{x y:Operand}{xt yt:Nat}{s u:ByteArray}(hn:Nat.blt d X.n=true)(hx:ba sl x=some (.m (.d (.str s))))(hy:ba sl y=some (.m (.d (.str u))))(k:TL X ops rest ⟨(d,.m (.d (.bool (decide (s=u)))))::sl,bx,H⟩ post):
  TL X ops (⟨some d,.binOp .eql xt x y yt,ty,pos,af,none⟩::rest) ⟨sl,bx,H⟩ post:=
 TL.o1 rfl rfl hn (uv hx hy) k
theorem pG{x y:Operand}{xt yt:Nat}{s u:ByteArray}(hn:Nat.blt d X.n=true)(hx:ba sl x=some (.m (.d (.str s))))(hy:ba sl y=some (.m (.d (.str u))))(hs:s.size+u.size<=9223372036854775807)(k:TL X ops rest ⟨(d,.m (.d (.str (s++u))))::sl,bx,H⟩ post):
  TL X ops (⟨some d,.binOp .add xt x y yt,ty,pos,af,none⟩::rest) ⟨sl,bx,H⟩ post:=
 TL.o1 rfl rfl hn (nI hx hy hs) k
theorem b_{t:Nat}{x:Operand}{v:D}(hn:Nat.blt d X.n=true)(hx:ba sl x=some (.m (.d v)))(k:TL X ops rest ⟨(d,.m (.d (.bM (aN v) 0)))::sl,bx,H⟩ post):
  TL X ops (⟨some d,.box t x,ty,pos,af,none⟩::rest) ⟨sl,bx,H⟩ post:=
 TL.o1 rfl rfl hn (zp hx) k
theorem az{s f:Nat}{x:Operand}{cs:List D}{off o:Nat}(hn:Nat.blt d X.n=true)(hx:ba sl x=some (.m (.d (.bM cs off))))[hf:aI X.P s f o](k:TL X ops rest ⟨(d,.m (.d (.bM cs (off+o))))::sl,bx,H⟩ post):
  TL X ops (⟨some d,.fieldAddr s x f,ty,pos,af,none⟩::rest) ⟨sl,bx,H⟩ post:=
 TL.o1 rfl rfl hn (nu hx) k
theorem aq{s f:Nat}{x:Operand}{t off o:Nat}(hn:Nat.blt d X.n=true)(hx:ba sl x=some (.loc t off))[hf:aI X.P s f o](k:TL X ops rest ⟨(d,.loc t (off+o))::sl,bx,H⟩ post):
  TL X ops (⟨some d,.fieldAddr s x f,ty,pos,af,none⟩::rest) ⟨sl,bx,H⟩ post:=
 TL.o1 rfl rfl hn (ny hx) k
theorem fS{s f:Nat}{x:Operand}{i off o:Nat}(hn:Nat.blt d X.n=true)(hx:ba sl x=some (.m (.ref i off)))[hf:aI X.P s f o](k:TL X ops rest ⟨(d,.m (.ref i (off+o)))::sl,bx,H⟩ post):
  TL X ops (⟨some d,.fieldAddr s x f,ty,pos,af,none⟩::rest) ⟨sl,bx,H⟩ post:=
 TL.o1 rfl rfl hn (nz hx) k
theorem ax{t:Nat}{x:Operand}{cs:List D}{off:Nat}{v:D}[ht:cj X.P t](hn:Nat.blt d X.n=true)(hx:ba sl x=some (.m (.d (.bM cs off))))(hr:cs[off]?=some v)(k:TL X ops rest ⟨(d,.m (.d v))::sl,bx,H⟩ post):
  TL X ops (⟨some d,.load t x,ty,pos,af,none⟩::rest) ⟨sl,bx,H⟩ post:=
 TL.o1 rfl rfl hn (r9 hx hr) k
theorem aW{t n:Nat}{x:Operand}{cs:List D}[ht:cL X.P t n](hn:Nat.blt d X.n=true)(hx:ba sl x=some (.m (.d (.bM cs 0))))(hr:cs.length=n)(k:TL X ops rest ⟨(d,.m (.d (.agg cs)))::sl,bx,H⟩ post):
  TL X ops (⟨some d,.load t x,ty,pos,af,none⟩::rest) ⟨sl,bx,H⟩ post:=
 TL.o1 rfl rfl hn (r_ hx hr) k
theorem dj{t n:Nat}{x:Operand}{cs ds:List D}{off:Nat}[ht:cL X.P t n](hn:Nat.blt d X.n=true)(hx:ba sl x=some (.m (.d (.bM cs off))))(hr:sub cs off n=some ds)(k:TL X ops rest ⟨(d,.m (.d (.agg ds)))::sl,bx,H⟩ post):
  TL X ops (⟨some d,.load t x,ty,pos,af,none⟩::rest) ⟨sl,bx,H⟩ post:=
 TL.o1 rfl rfl hn (sa hx (Nat.ble_eq_true_of_le (sub_eq hr).1) (sub_eq hr).2) k
theorem aB{T:Nat}{x:Operand}{t off:Nat}{cs:List M}{m:M}[ht:cj X.P T](hn:Nat.blt d X.n=true)(hx:ba sl x=some (.loc t off))(hb:get bx t=some cs)(hr:cs[off]?=some m)(k:TL X ops rest ⟨(d,.m m)::sl,bx,H⟩ post):
  TL X ops (⟨some d,.load T x,ty,pos,af,none⟩::rest) ⟨sl,bx,H⟩ post:=
 TL.o1 rfl rfl hn (sj hx hb hr) k
theorem aY{T n:Nat}{x:Operand}{t off:Nat}{cs FG:List M}{ds:List D}[ht:cL X.P T n](hn:Nat.blt d X.n=true)(hx:ba sl x=some (.loc t off))(hb:get bx t=some cs)(hs:sub cs off n=some FG)
  (hr:cT FG=some ds) (k:TL X ops rest ⟨(d,.m (.d (.agg ds)))::sl,bx,H⟩ post):TL X ops (⟨some d,.load T x,ty,pos,af,none⟩::rest) ⟨sl,bx,H⟩ post:=
 TL.o1 rfl rfl hn (sk hx hb (Nat.ble_eq_true_of_le (sub_eq hs).1) (by rw[(sub_eq hs).2];exact hr)) k
theorem eG{x:Operand}{v:V}(hn:Nat.blt d X.n=true)(hx:ba sl x=some v)(hv:nF v=true)
  (k:TL X ops rest ⟨(d,v)::sl,bx,H⟩ post):TL X ops (⟨some d,.nilCheck x,ty,pos,af,none⟩::rest) ⟨sl,bx,H⟩ post:=
 TL.o1 rfl rfl hn (kX hx hv) k
theorem bg{t e:Nat}{x:Operand}{v:D}{n:Nat}[ht:aL X.P t e](hn:Nat.blt d X.n=true)(hx:ba sl x=some (.m (.d v)))(hl:nG v=some n)
  (k:TL X ops rest ⟨(d,.m (.d (.int .i64 n)))::sl,bx,H⟩ post):TL X ops (⟨some d,.call ⟨.builtin .len,#[x],#[t]⟩,ty,pos,af,none⟩::rest) ⟨sl,bx,H⟩ post:=
 TL.o1 rfl rfl hn (sg hx hl) k
theorem aO{t e n:Nat}{x y:Operand}{rows:List (List D)}{r:List D}{kk:IntKind}{i:Int}[ht:aL X.P t e][hs:bh X.P e n](hn:Nat.blt d X.n=true)(hx:ba sl x=some (.m (.d (.sl rows))))(hy:ba sl y=some (.m (.d (.int kk i))))
  (h0:0<=i) (hr:rows[i.toNat]?=some r) (hl:r.length=n) (k:TL X ops rest ⟨(d,.m (.d (.bM r 0)))::sl,bx,H⟩ post):TL X ops (⟨some d,.indexAddr t x y,ty,pos,af,none⟩::rest) ⟨sl,bx,H⟩ post:=
 TL.o1 rfl rfl hn (nH hx hy h0 hr hl) k
theorem aR{x:Operand}{i:Nat}{vs:List M}{m:M}(hn:Nat.blt d X.n=true)(hx:ba sl x=some (.m (.bz vs)))(hm:vs[i]?=some m)(k:TL X ops rest ⟨(d,.m m)::sl,bx,H⟩ post):
  TL X ops (⟨some d,.extract x i,ty,pos,af,none⟩::rest) ⟨sl,bx,H⟩ post:=
 TL.o1 rfl rfl hn (lQ hx hm) k
theorem bL{f:Nat}{args:List Operand}{Gj:Array Nat}{ds:List D}{r:D}[hf:bp X.P f](h:PT X.P f ds (·=[r]))(hn:Nat.blt d X.n=true)(ha:dX sl args=some ds)(k:TL X ops rest ⟨(d,.m (.d r))::sl,bx,H⟩ post):
  TL X ops (⟨some d,.call ⟨.value (.func f),args.toArray,Gj⟩,ty,pos,af,none⟩::rest) ⟨sl,bx,H⟩ post:=
 TL.o1 rfl rfl hn (uw (by rw[kG];exact ha) h) k
theorem CO{f:Nat}{args:List Operand}{Gj:Array Nat}{ds:List D}{q:List D->Prop}[hf:bp X.P f](h:PT X.P f ds q)(hn:Nat.blt d X.n=true)(ha:dX sl args=some ds)
  (k:∀r,q r->TL X ops rest ⟨(d,.m (fD (r.map .d)))::sl,bx,H⟩ post):
  TL X ops (⟨some d,.call ⟨.value (.func f),args.toArray,Gj⟩,ty,pos,af,none⟩::rest) ⟨sl,bx,H⟩ post:=
 TL.op rfl rfl hn (wA (by rw[kG];exact ha) h) (by rintro v s ⟨r,rfl,hq,rfl⟩;exact k r hq)
theorem wD{x:Operand}{f:Nat}{FR:List D}{args:List Operand}{Gj:Array Nat}{ds:List D}{r:D}[hf:bp X.P f](h:PT X.P f (ds++FR) (·=[r]))(hn:Nat.blt d X.n=true)(hx:ba sl x=some (.m (.d (.fn f FR))))(ha:dX sl args=some ds)
  (k:TL X ops rest ⟨(d,.m (.d r))::sl,bx,H⟩ post):TL X ops (⟨some d,.call ⟨.value x,args.toArray,Gj⟩,ty,pos,af,none⟩::rest) ⟨sl,bx,H⟩ post:=
 TL.op rfl rfl hn (Am hx (by rw[kG];exact ha) h) (by rintro v s ⟨r',rfl,rfl,rfl⟩;exact k)
theorem dF{f:Nat}{args:List Operand}{Gj:Array Nat}{ms:List M}{q:M->Hp->Prop}[hf:bp X.P f](h:CT X.P f ms H q)(hn:Nat.blt d X.n=true)(ha:cE sl args=some ms)
  (k:∀r H',q r H'->TL X ops rest ⟨(d,.m r)::sl,bx,H'⟩ post):
  TL X ops (⟨some d,.call ⟨.value (.func f),args.toArray,Gj⟩,ty,pos,af,none⟩::rest) ⟨sl,bx,H⟩ post:=
 TL.op rfl rfl hn (pD (by rw[oI];exact ha) h) (by rintro v s ⟨r,H',rfl,hq,rfl⟩;exact k r H' hq)
theorem qJ{f:Nat}{FR:List Operand}{ds:List D}(hn:Nat.blt d X.n=true)(ha:dX sl FR=some ds)(k:TL X ops rest ⟨(d,.m (.d (.fn f ds)))::sl,bx,H⟩ post):
  TL X ops (⟨some d,.makeFunc (.func f) #[] FR.toArray,ty,pos,af,none⟩::rest) ⟨sl,bx,H⟩ post:=
 TL.o1 rfl rfl hn (oG (by rw[kG];exact ha)) k
theorem bH{T:Nat}{parts:List (Nat×Operand)}{ps:List (Nat×Nat)}{z:List D}{zs:List M}{ms:List (Nat×M)}{cs:List M}{ds:List D}[ht:cp X.P T ps z](hn:Nat.blt d X.n=true)(he:eW sl parts=some ms)(hz:kE z=some zs)
  (hf:gU ps zs ms=some cs) (hd:cT cs=some ds) (k:TL X ops rest ⟨(d,.m (.d (.agg ds)))::sl,bx,H⟩ post):TL X ops (⟨some d,.build T parts.toArray,ty,pos,af,none⟩::rest) ⟨sl,bx,H⟩ post:=by
 have h1:=kD (X:=X) (dst:=some d) (ty:=ty) (pos:=pos) (af:=af) (g:=none) (st:=⟨sl,bx,H⟩) (T:=T) (by rw[eF];exact he) (by rw[<-kF hz];exact jp hf);have:pack cs=.d (.agg ds):=by simp[pack,hd]
 rw[this]at h1;exact TL.o1 rfl rfl hn h1 k
theorem j_{st:St}{dst:Option Nat}{g:Option (Nat×Bool)}{T e n len:Nat}{parts:List (Nat×Operand)}{z:D}{ms:List (Nat×M)}{rows:List (List D)}[ht:aL X.P T e][hs:bh X.P e n][hz:dt X.P e z](h0:Nat.blt 0 n=true)(Ga:Nat.beq (aN z).length n=true)
  (hle:Nat.ble (len*n) 16777216=true) (he:bZ st parts=some ms) (hr:fc 0 ms=some rows) (hlen:Nat.beq rows.length len=true) (hl:fe n rows=true):
  aK X ⟨dst,.buildSlice T len parts.toArray,ty,pos,af,g⟩ st (bt (.m (.d (.sl rows))) st):=by
 have JW:=Nat.eq_of_beq_eq_true hlen;have GC:=jD hl;have JX:=Nat.eq_of_beq_eq_true Ga;have Jd:rows.length=ms.length:=by
  have:∀{ms:List (Nat×M)} {k:Nat} {rows:List (List D)},fc k ms=some rows->rows.length=ms.length:=by
   intro ms
   induction ms with
   |nil=>intro k rows h;simp[fc]at h;subst h;rfl
   |cons p r ih=>
    intro k rows h;obtain⟨i,m⟩:=p;cases m with
    |d d=>
     simp only[fc]at h;cases hb:Nat.beq i k with
     |false=>simp[hb]at h
     |true=>
      simp only[hb,cond_true]at h;split at h
      ·rename_i rs hr;injection h with h;subst h;simp[ih hr]
      ·cases h
    |_=>simp[fc]at h
  exact this hr
 obtain⟨h1,h2⟩:=nP (aQ h0) (k:=0) (pre:=[]) (I5:=cq n len (aN z)) hr GC (by simp) (by simp[cq];rw[<-JW,Jd]);simp only[List.nil_append]at h1;have KG:chunk n len (rows.map λr=>r.map M.d).flatten=some rows:=by rw[<-JW];exact j9 GC
 exact sn h0 JX hle he h1 KG
theorem aD{T e n len:Nat}{parts:List (Nat×Operand)}{z:D}{ms:List (Nat×M)}{rows:List (List D)}[ht:aL X.P T e][hs:bh X.P e n][hz:dt X.P e z](hn:Nat.blt d X.n=true)(h0:Nat.blt 0 n=true)(Ga:Nat.beq (aN z).length n=true)
  (hle:Nat.ble (len*n) 16777216=true) (he:eW sl parts=some ms) (hr:fc 0 ms=some rows) (hlen:Nat.beq rows.length len=true) (hl:fe n rows=true)
  (k:TL X ops rest ⟨(d,.m (.d (.sl rows)))::sl,bx,H⟩ post):TL X ops (⟨some d,.buildSlice T len parts.toArray,ty,pos,af,none⟩::rest) ⟨sl,bx,H⟩ post:=
 TL.o1 rfl rfl hn (j_ h0 Ga hle (by rw[eF];exact he) hr hlen hl) k
class ib(P:Program)(t:Nat)(cs:outParam (List M)):Prop where
 h:∃z,mH P t z/\(aN z).map .d=cs
theorem aM{T:Nat}{cs:List M}[hz:ib X.P T cs](hn:Nat.blt d X.n=true)(hl:dv d sl=true)(k:TL X ops rest ⟨(d,.loc d 0)::sl,(d,cs)::bx,H⟩ post):
  TL X ops (⟨some d,.alloc T,ty,pos,af,none⟩::rest) ⟨sl,bx,H⟩ post:=by
 obtain⟨z,h1,h2⟩:=hz.h;subst h2;have h3:=pE (X:=X) (st:=⟨sl,bx,H⟩) (d:=d) (T:=T) (ty:=ty) (pos:=pos) (af:=af) (g:=none);have e:bu d sl=sl:=by
  have:∀l:List (Nat×V),dv d l=true->bu d l=l:=by
   intro l
   induction l with
   |nil=>intro _;rfl
   |cons x l ih=>
    obtain⟨k,v⟩:=x;cases v with
    |m m=>intro h;simp only[dv]at h;simp[bu,ih h]
    |tl e1 e2 e3 e4=>intro h;simp only[dv]at h;simp[bu,ih h]
    |loc u o=>intro h;simp only[dv,Bool.and_eq_true,Bool.not_eq_true']at h;simp[bu,h.1,ih h.2]
  exact this sl hl
 simp only[e]at h3;exact TL.o1 rfl rfl hn h3 k
theorem dw{T:Nat}{x:Operand}{m:M}{cs:List M}(hn:Nat.blt d X.n=true)(hl:dv d sl=true)(hx:ba sl x=some (.m m))(hc:dJ m=some cs)(k:TL X ops rest ⟨(d,.loc d 0)::sl,(d,cs)::bx,H⟩ post):
  TL X ops (⟨some d,.box T x,ty,pos,af,none⟩::rest) ⟨sl,bx,H⟩ post:=by
 obtain⟨h1,h2⟩:=bQ hc;have h3:=wB (X:=X) (st:=⟨sl,bx,H⟩) (d:=d) (T:=T) (ty:=ty) (pos:=pos) (af:=af) (g:=none) hx h2;have e:bu d sl=sl:=by
  have:∀l:List (Nat×V),dv d l=true->bu d l=l:=by
   intro l
   induction l with
   |nil=>intro _;rfl
   |cons x l ih=>
    obtain⟨k,v⟩:=x;cases v with
    |m m=>intro h;simp only[dv]at h;simp[bu,ih h]
    |tl e1 e2 e3 e4=>intro h;simp only[dv]at h;simp[bu,ih h]
    |loc u o=>intro h;simp only[dv,Bool.and_eq_true,Bool.not_eq_true']at h;simp[bu,h.1,ih h.2]
  exact this sl hl
 simp only[e,h1]at h3;exact TL.o1 rfl rfl hn h3 k
theorem av{T n:Nat}{x y:Operand}{t off:Nat}{cs new FG:List M}{m:M}[hs:bh X.P T n](hx:ba sl x=some (.loc t off))(hy:ba sl y=some (.m m))(hb:get bx t=some cs)(hc:dJ m=some new)
  (hl:Nat.beq new.length n=true) (hw:wr cs off new=some FG) (k:TL X ops rest ⟨sl,(t,FG)::bx,H⟩ post):TL X ops (⟨none,.store T x y,ty,pos,af,none⟩::rest) ⟨sl,bx,H⟩ post:=by
 obtain⟨h1,h2⟩:=bQ hc;subst h1;exact TL.zm rfl rfl (nL hx hy hb (Nat.eq_of_beq_eq_true hl) h2 (kr hw)) k
theorem Inv.fJ{Gy:List (Nat×V)}{Jv:List (Nat×List M)}{a:Act}{w:World}(h:Inv X ⟨sl,bx,H⟩ a w)(hs:∀t v,get Gy t=some v->get sl t=some v)
  (hb:∀t,get Jv t=get bx t):Inv X ⟨Gy,Jv,H⟩ a w:=by
 obtain⟨σ,FC,h1,hi⟩:=h;refine⟨σ,FC,h1,hi.hH,hi.defers,hi.size,λt v h=>hi.slot t v (hs t v h),λt cs h=>hi.box t cs (by rw[<-hb];exact h),λt u cs ds h h'=>hi.jC t u cs ds (by rw[<-hb];exact h) (by rw[<-hb];exact h'),
  λt cs h=>hi.j5 t cs (by rw[<-hb];exact h),λt cs h=>hi.j6 t cs (by rw[<-hb];exact h),?_,hi.mono,hi.be⟩
 have e:∀b o,iT X.fa FC Jv b o↔iT X.fa FC bx b o:=by intro b o;simp[iT,hb]
 exact⟨hi.hinv.obj,hi.hinv.inj,λb o=>by rw[e];exact hi.hinv.own b o,λi ob h1 h2 o h3=>hi.hinv.sep i ob h1 h2 o ((e _ _).1 h3),λb o h3=>hi.hinv.fj b o ((e _ _).1 h3)⟩
def keeps(sl Gy:List (Nat×V)):Prop:=(Gy.map λp=>get sl p.1)=Gy.map λp=>some p.2
theorem kc{sl r:List (Nat×V)}{t:Nat}{v:V}(h:get sl t=some v)(k:keeps sl r):keeps sl ((t,v)::r):=by
 show get sl t::_=some v::_;rw[h];exact congrArg _ k
theorem ff{sl:List (Nat×V)} :∀{Gy:List (Nat×V)},keeps sl Gy->∀t v,get Gy t=some v->get sl t=some v
 |[],_,t,v,h=>by simp[get]at h
 |(k,u)::r,hk,t,v,h=>by
  injection hk with h1 h2
  rcases bf h with⟨rfl,rfl⟩|⟨h3,h4⟩
  ·exact h1
  ·exact ff h2 t v h4
end rules
theorem TC.fJ{X:bq}{c:Code}{sl Gy:List (Nat×V)}{bx:List (Nat×List M)}{H:Hp}{post:Exit->St->Prop}(h:TC X c ⟨Gy,bx,H⟩ post)(hk:keeps sl Gy):TC X c ⟨sl,bx,H⟩ post:=
 λa w hi=>h a w (hi.fJ (ff hk) (λ_=>rfl))
theorem TC.x6{X:bq}{c:Code}{st:St}{post:Exit->St->Prop}(I:Nat->St->Prop)(k0:Nat)(s0:St)(h0:I k0 s0)(hw:∀a w,Inv X st a w->Inv X s0 a w)
  (round:∀k s,I k s->TC X c s (after post λs'=>∃k' Jw,k'<k/\I k' Jw/\∀a w,Inv X s' a w->Inv X Jw a w)):TC X (.loop c) st post:=by
 intro a w hi;have FL:=hw a w hi;refine wp_loop_ghost (λk a w=>∃s,I k s/\Inv X s a w) k0 ⟨s0,h0,FL⟩ ?_;rintro k a w ⟨s,h1,h2⟩;refine wp_mono (round k s h1 a w h2) ?_;intro e a' w' ⟨s',h3,h4⟩;cases e with
 |normal=>obtain⟨k',Jw,h5,h6,h7⟩:=h3;exact⟨k',h5,Jw,h6,h7 _ _ h4⟩
 |_=>exact⟨s',h3,h4⟩
structure Ef where
 d:Option Nat
 v:V
 rb:List Nat
 wb:List (Nat×List M)
 nw:Option Nat
 rh:Bool
 wh:Option Hp
def Ef.app(e:Ef)(st:St):St:=
 ⟨match e.d with|some d=>(d,e.v)::st.sl|none=>st.sl,e.wb++st.bx,match e.wh with|some h=>h|none=>st.H⟩
def jE(X:bq)(ops:Array Oper)(o:Oper)(st FM:St):Prop:=
 ∀a w,Inv X st a w->∀(K:Act->World->Prop) (Q:Exit->Act->World->Prop),(∀a' w',Inv X FM a' w'->K a' w')->
  if Region.wanted o (yielded ops a.tmps)then o.wp X.P a w K Q else K (a.put o.dst undef) w
structure Ag(ops:Array Oper)(o:Oper)(e:Ef)(st FE:St):Prop where
 sl:∀t∈o.looksAt ops,get FE.sl t=get st.sl t
 bx:∀t∈e.rb++e.wb.map (·.1),get FE.bx t=get st.bx t
 H:(e.rh||e.wh.isSome)=true->FE.H=st.H
 nw:∀d,e.nw=some d->∀t o,get FE.sl t≠some (.loc d o)
def bK(X:bq)(ops:Array Oper)(o:Oper)(e:Ef)(st:St):Prop:=∀FE,Ag ops o e st FE->jE X ops o FE (e.app FE)
inductive ka(X:bq)(ops:Array Oper):List Oper->St->List Ef->St->Prop where
 |nil (st:St):ka X ops [] st [] st
 |cons {o:Oper} {os:List Oper} {st FM:St} {e:Ef} {es:List Ef} (h:bK X ops o e st) (hd:e.d=o.dst) (k:ka X ops os (e.app st) es FM):ka X ops (o::os) st (e::es) FM
def TF(X:bq)(ops:Array Oper)(l:List Oper)(st:St)(post:List Ef->St->Prop):Prop:=∃es FM,ka X ops l st es FM/\post es FM
theorem TF.nil{X:bq}{ops:Array Oper}{st:St}{post:List Ef->St->Prop}(h:post [] st):TF X ops [] st post:=⟨[],st,.nil st,h⟩
theorem TF.cons{X:bq}{ops:Array Oper}{o:Oper}{rest:List Oper}{st:St}{e:Ef}{post:List Ef->St->Prop}(h:bK X ops o e st)(hd:e.d=o.dst)
  (k:TF X ops rest (e.app st) λes s=>post (e::es) s):TF X ops (o::rest) st post:=by
 obtain⟨es,FM,h1,h2⟩:=k;exact⟨e::es,FM,.cons h hd h1,h2⟩
def dH(ops:List Oper):List (List Nat):=
 ops.foldl (λacc o=>acc++[(o.after.toList.filter (Region.binds .any)).flatMap λe=>e.on::acc.getD e.on []]) []
def has(l:List Nat)(i:Nat):Bool:=l.any λx=>Nat.beq x i
def slotsOf(ops:Array Oper)(o:Oper):List Nat:=o.looksAt ops++o.dst.toList
def bU(ops:Array Oper)(x y:Oper)(e f:Ef):Bool:=
 (match x.dst with|some d=>has (slotsOf ops y) d|none=>false)||(match y.dst with|some d=>has (slotsOf ops x) d|none=>false)||
 (e.wb.any λp=>has (f.rb++f.wb.map (·.1)) p.1)||(f.wb.any λp=>has (e.rb++e.wb.map (·.1)) p.1)||
 (e.wh.isSome&&(f.rh||f.wh.isSome))||(f.wh.isSome&&e.rh)||
 (match e.nw,f.v with|some d,.loc u _=>Nat.beq u d|_,_=>false)
def f_(e f:Ef):Bool:=match f.nw,e.v with
 |some d,.loc u _=>Nat.beq u d
 |_,_=>false
def jF:Nat->List Oper->Bool
 |_,[]=>true
 |j,o::r=>(o.after.toList.all λe=> !Region.binds .any e||Nat.blt e.on j)&&jF (j+1) r
def dS(ops:Array Oper)(x:Oper)(e:Ef)(i:Nat):List Oper->List Ef->List (List Nat)->Bool
 |y::ys,f::fs,b::bs=>(!bU ops x y e f||has b i)&& !f_ e f&&dS ops x e i ys fs bs
 |_,_,_=>true
def ei(ops:Array Oper):Nat->List Oper->List Ef->List (List Nat)->Bool
 |i,x::xs,e::es,b::bs=>dS ops x e i xs es bs&&ei ops (i+1) xs es bs
 |_,_,_,_=>true
def eH(sl:List (Nat×V)):List Ef->Bool
 |[]=>true
 |e::es=>(match e.nw with|some d=>dv d sl|none=>true)&&eH sl es
def gk(ops:List Oper)(sl:List (Nat×V))(es:List Ef):Bool:=
 jF 0 ops&&ei ops.toArray 0 ops es (dH ops)&&eH sl es
theorem cJ{l:List Nat}{i:Nat} :has l i=true↔i∈l:=by
 unfold has;rw[List.any_eq_true];constructor
 ·rintro⟨x,h1,h2⟩;rw[<-Nat.eq_of_beq_eq_true h2];exact h1
 ·intro h;exact⟨i,h,Nat.beq_refl i⟩
def S(st:St)(es:List Ef)(listed:Nat->Bool):Nat->St
 |0=>st
 |k+1=>match es[k]? with
  |some e=>bif listed k then e.app (S st es listed k)else S st es listed k
  |none=>S st es listed k
structure Part(α:Type)(es:List Ef)where
 r:St->α
 W:Nat->Bool
 c:Nat->α
 dR:∀k e s,es[k]?=some e->W k=false->r (e.app s)=r s
 write:∀k e s,es[k]?=some e->W k=true->r (e.app s)=c k
section parts
variable{α:Type}{es:List Ef}(p:Part α es){st:St}
theorem ij(L L':Nat->Bool):∀n,(∀k,k<n->p.W k=true->L k=L' k)->p.r (S st es L n)=p.r (S st es L' n)
 |0,_=>rfl
 |n+1,h=>by
  have ih:=ij L L' n (λk hk=>h k (by omega));simp only[S];cases he:es[n]? with
  |none=>exact ih
  |some e=>
   simp only;cases hw:p.W n with
   |false=>
    cases hl:L n<;>cases GC:L' n<;>simp only[cond_true,cond_false]<;>(try rw[p.dR n e _ he hw])<;>(try rw[p.dR n e _ he hw])<;>exact ih
   |true=>
    have:=h n (by omega) hw;rw[this];cases GC:L' n<;>simp only[cond_true,cond_false]
    ·exact ih
    ·rw[p.write n e _ he hw,p.write n e _ he hw]
theorem kZ(L:Nat->Bool)(i:Nat):∀n,i<=n->(∀k,i<=k->k<n->p.W k=true->L k=false)->p.r (S st es L n)=p.r (S st es L i)
 |0,h0,_=>by
  have:i=0:=by omega
  subst this;rfl
 |n+1,h0,h=>by
  by_cases e:i=n+1
  ·subst e;rfl
  ·have ih:=kZ L i n (by omega) (λk h1 h2=>h k h1 (by omega));simp only[S];cases he:es[n]? with
   |none=>exact ih
   |some e=>
    simp only;cases hl:L n with
    |false=>exact ih
    |true=>
     simp only[cond_true];cases hw:p.W n with
     |false=>rw[p.dR n e _ he hw];exact ih
     |true=>rw[h n (by omega) (by omega) hw]at hl;cases hl
theorem fk(L:Nat->Bool)(i m:Nat)(hi:i<=m)(h1:∀k,k<i->p.W k=true->L k=true)(h2:∀k,i<=k->k<m->p.W k=true->L k=false):
  p.r (S st es L m)=p.r (S st es (λ_=>true) i):=
 (kZ p L i m hi h2).trans (ij p L _ i λk hk hw=>h1 k hk hw)
theorem jG(L:Nat->Bool)(i m:Nat)(hi:i<m)(e:Ef)(he:es[i]?=some e)(hL:L i=false)(h2:p.W i=true->∀k,i<k->k<m->p.W k=true->L k=false):
  p.r (S st es (λk=>if k=i then true else L k) m)=p.r (e.app (S st es L m)):=by
 cases hw:p.W i with
 |true=>
  rw[p.write i e _ he hw];have:=kZ p (st:=st) (λk=>if k=i then true else L k) (i+1) m (by omega) (λk h3 h4 h5=>by
   have:k≠i:=by omega
   simp[this];exact h2 hw k (by omega) h4 h5)
  rw[this];simp only[S,he,if_true,cond_true];exact p.write i e _ he hw
 |false=>
  rw[p.dR i e _ he hw];exact ij p _ _ m λk hk Hi=>by
   have:k≠i:=by rintro rfl;rw[hw]at Hi;cases Hi
   simp[this]
end parts
def eh(es:List Ef)(t:Nat):Part (Option V) es where
 r s:=get s.sl t
 W k:=match es[k]? with
  |some e=>match e.d with|some d=>Nat.beq d t|none=>false
  |none=>false
 c k:=match es[k]? with|some e=>some e.v|none=>none
 dR k e s he hw:=by
  simp only[he]at hw;unfold Ef.app;cases hd:e.d with
  |none=>rfl
  |some d=>
   simp only[hd]at hw;have:d≠t:=by rintro rfl;simp at hw
   simp[aX,this]
 write k e s he hw:=by
  simp only[he]at hw⊢;unfold Ef.app;cases hd:e.d with
  |none=>simp[hd]at hw
  |some d=>
   simp only[hd]at hw;have:=Nat.eq_of_beq_eq_true hw;subst this;simp[aX]
theorem get_append{α:Type}(l r:List (Nat×α))(t:Nat):get (l++r) t=match get l t with|some v=>some v|none=>get r t:=by
 induction l with
 |nil=>rfl
 |cons x l ih=>
  obtain⟨k,v⟩:=x;rw[List.cons_append,aX,aX];by_cases e:k=t
  ·simp[e]
  ·simp[e,ih]
theorem eO{α:Type}(l:List (Nat×α))(t:Nat):(get l t).isSome=has (l.map (·.1)) t:=by
 induction l with
 |nil=>rfl
 |cons x l ih=>
  obtain⟨k,v⟩:=x;rw[aX];by_cases e:k=t
  ·subst e;simp[has]
  ·have:Nat.beq k t=false:=by rw[<-Bool.not_eq_true];intro h;exact e (Nat.eq_of_beq_eq_true h)
   simp only[e,if_false,ih,has,List.map_cons,List.any_cons,this,Bool.false_or]
def eX(es:List Ef)(t:Nat):Part (Option (List M)) es where
 r s:=get s.bx t
 W k:=match es[k]? with
  |some e=>has (e.wb.map (·.1)) t
  |none=>false
 c k:=match es[k]? with|some e=>get e.wb t|none=>none
 dR k e s he hw:=by
  simp only[he]at hw;have h:=eO e.wb t;rw[hw]at h;show get (e.wb++s.bx) t=_;rw[get_append];cases hg:get e.wb t with
  |none=>rfl
  |some v=>rw[hg]at h;cases h
 write k e s he hw:=by
  simp only[he]at hw⊢;have h:=eO e.wb t;rw[hw]at h;show get (e.wb++s.bx) t=_;rw[get_append];cases hg:get e.wb t with
  |none=>rw[hg]at h;cases h
  |some v=>rfl
def gJ(es:List Ef):Part Hp es where
 r s:=s.H
 W k:=match es[k]? with
  |some e=>e.wh.isSome
  |none=>false
 c k:=match es[k]? with|some e=>(match e.wh with|some h=>h|none=>[])|none=>[]
 dR k e s he hw:=by
  simp only[he]at hw;unfold Ef.app;cases hh:e.wh with
  |none=>rfl
  |some h=>rw[hh]at hw;cases hw
 write k e s he hw:=by
  simp only[he]at hw⊢;unfold Ef.app;cases hh:e.wh with
  |none=>rw[hh]at hw;cases hw
  |some h=>rfl
theorem fg:∀(ops:List Oper),(dH ops).length=ops.length:=by
 have:∀(ops:List Oper) (acc:List (List Nat)),(ops.foldl (λacc o=>acc++[(o.after.toList.filter (Region.binds .any)).flatMap λe=>e.on::acc.getD e.on []]) acc).length=acc.length+ops.length:=by
  intro ops
  induction ops with
  |nil=>intro acc;simp
  |cons o ops ih=>intro acc;rw[List.foldl_cons,ih];simp;omega
 intro ops;unfold dH;rw[this];simp
theorem pH{ops:List Oper}{j i:Nat}{o:Oper}{b:List Nat}(ho:ops[j]?=some o)(hb:(dH ops)[j]?=some b)(hi:i∈b):
  ∃e∈o.after.toList,Region.binds .any e=true/\(e.on=i\/∃b',(dH ops)[e.on]?=some b'/\e.on<j/\i∈b'):=by
 have key:∀(ops:List Oper) (acc:List (List Nat)) (j:Nat) (o:Oper) (b:List Nat),ops[j]?=some o->
   (ops.foldl (λacc o=>acc++[(o.after.toList.filter (Region.binds .any)).flatMap λe=>e.on::acc.getD e.on []]) acc)[acc.length+j]?=some b->
   ∃GP:List (List Nat),GP.length=acc.length+j/\(∀k,k<acc.length+j->GP[k]?=(ops.foldl (λacc o=>acc++[(o.after.toList.filter (Region.binds .any)).flatMap λe=>e.on::acc.getD e.on []]) acc)[k]?)/\
    b=(o.after.toList.filter (Region.binds .any)).flatMap λe=>e.on::GP.getD e.on []:=by
  have pre:∀(ops:List Oper) (acc:List (List Nat)) (k:Nat),k<acc.length->
    (ops.foldl (λacc o=>acc++[(o.after.toList.filter (Region.binds .any)).flatMap λe=>e.on::acc.getD e.on []]) acc)[k]?=acc[k]?:=by
   intro ops
   induction ops with
   |nil=>intro acc k _;rfl
   |cons o ops ih=>
    intro acc k hk;rw[List.foldl_cons,ih _ k (by simp;omega),List.getElem?_append_left hk]
  intro ops
  induction ops with
  |nil=>intro acc j o b h;simp at h
  |cons x ops ih=>
   intro acc j o b h hb;cases j with
   |zero=>
    simp at h;subst h;rw[List.foldl_cons,pre _ _ _ (by simp)]at hb;simp at hb;refine⟨acc,by simp,?_,hb.symm⟩;intro k hk;rw[List.foldl_cons,pre _ _ _ (by simp;omega),List.getElem?_append_left (by omega)]
   |succ j=>
    rw[List.foldl_cons]at hb⊢;have e:acc.length+(j+1)=(acc++[(x.after.toList.filter (Region.binds .any)).flatMap λe=>e.on::acc.getD e.on []]).length+j:=by simp;omega
    rw[e]at hb⊢;exact ih _ j o b (by simpa using h) hb
 obtain⟨GP,h1,h2,h3⟩:=key ops [] j o b ho (by simpa [dH] using hb);subst h3;rw[List.mem_flatMap]at hi;obtain⟨e,he,hi⟩:=hi;rw[List.mem_filter]at he;refine⟨e,he.1,he.2,?_⟩;simp only[List.mem_cons]at hi;rcases hi with hi|hi
 ·exact .inl hi.symm
 ·right;have FJ:e.on<GP.length:=by
   rcases Nat.lt_or_ge e.on GP.length with h|h
   ·exact h
   ·simp[List.getElem?_eq_none h]at hi
  have:GP[e.on]?=(dH ops)[e.on]?:=by
   have:=h2 e.on (by simp at h1⊢;omega);simpa [dH] using this
  refine⟨GP[e.on],by rw[<-this];simp[FJ],by simp at h1;omega,?_⟩;simpa [List.getD,FJ] using hi
theorem fK{HC:Array Oper}{x:Oper}{e:Ef}{i:Nat} :∀{ys:List Oper} {fs:List Ef} {bs:List (List Nat)},dS HC x e i ys fs bs=true->
  ∀(j:Nat) y f b,ys[j]?=some y->fs[j]?=some f->bs[j]?=some b->(bU HC x y e f=true->i∈b)/\f_ e f=false
 |[],_,_,_,j,y,f,b,hy,_,_=>by simp at hy
 |_::_,[],_,_,j,y,f,b,_,hf,_=>by simp at hf
 |_::_,_::_,[],_,j,y,f,b,_,_,hb=>by simp at hb
 |y0::ys,f0::fs,b0::bs,h,j,y,f,b,hy,hf,hb=>by
  simp only[dS,Bool.and_eq_true,Bool.or_eq_true,Bool.not_eq_true']at h;cases j with
  |zero=>
   simp at hy hf hb;subst hy;subst hf;subst hb;refine⟨λhc=>?_,h.1.2⟩;rcases h.1.1 with h1|h1
   ·rw[h1]at hc;cases hc
   ·exact cJ.1 h1
  |succ j=>simp at hy hf hb;exact fK h.2 j y f b hy hf hb
theorem fu{HC:Array Oper} :∀{xs:List Oper} {es:List Ef} {bs:List (List Nat)} {n:Nat},ei HC n xs es bs=true->
  ∀(i j:Nat) x e y f b,i<j->xs[i]?=some x->es[i]?=some e->xs[j]?=some y->es[j]?=some f->bs[j]?=some b->(bU HC x y e f=true->n+i∈b)/\f_ e f=false
 |[],_,_,n,_,i,j,x,e,y,f,b,_,hx,_,_,_,_=>by simp at hx
 |_::_,[],_,n,_,i,j,x,e,y,f,b,_,_,he,_,_,_=>by simp at he
 |_::_,_::_,[],n,_,i,j,x,e,y,f,b,_,_,_,_,_,hb=>by simp at hb
 |x0::xs,e0::es,b0::bs,n,h,i,j,x,e,y,f,b,Lx,hx,he,hy,hf,hb=>by
  simp only[ei,Bool.and_eq_true]at h;cases j with
  |zero=>omega
  |succ j=>
   cases i with
   |zero=>
    simp at hx he hy hf hb;subst hx;subst he;exact fK h.1 j y f b hy hf hb
   |succ i=>
    simp at hx he hy hf hb;have:=fu h.2 i j x e y f b (by omega) hx he hy hf hb;rw[show n+(i+1)=n+1+i by omega];exact this
theorem iN:∀{ops:List Oper} {n:Nat},jF n ops=true->∀(j:Nat) o,ops[j]?=some o->∀e∈o.after.toList,Region.binds .any e=true->e.on<n+j
 |[],n,_,j,o,ho,_,_,_=>by simp at ho
 |x::r,n,h,j,o,ho,e,he,hb=>by
  simp only[jF,Bool.and_eq_true,List.all_eq_true,Bool.or_eq_true,Bool.not_eq_true']at h;cases j with
  |zero=>
   simp at ho;subst ho;rcases h.1 e he with h1|h1
   ·rw[h1]at hb;cases hb
   ·have:=aQ h1;omega
  |succ j=>simp at ho;have:=iN h.2 j o ho e he hb;omega
theorem c8(st:St)(es:List Ef):∀k,S st es (λ_=>true) k=(es.take k).foldl (λs e=>e.app s) st
 |0=>rfl
 |k+1=>by
  simp only[S];cases he:es[k]? with
  |none=>
   have hle:es.length<=k:=by rcases Nat.lt_or_ge k es.length with h|h;simp[List.getElem?_eq_getElem h]at he;exact h
   rw[c8 st es k,List.take_of_length_le hle,List.take_of_length_le (by omega)]
  |some e=>
   simp only[cond_true];rw[c8 st es k];have FJ:k<es.length:=by rcases Nat.lt_or_ge k es.length with h|h;exact h;simp[List.getElem?_eq_none h]at he
   rw[List.take_succ_eq_append_getElem FJ,List.foldl_append];have:es[k]=e:=by simpa [List.getElem?_eq_getElem FJ] using he
   rw[this];rfl
def i_:Nat->(Nat->Bool)->Nat
 |0,_=>0
 |k+1,f=>i_ k f+(bif f k then 0 else 1)
theorem so:∀{m:Nat} {f g:Nat->Bool},(∀k,k<m->f k=g k)->i_ m f=i_ m g
 |0,_,_,_=>rfl
 |m+1,f,g,h=>by simp only[i_];rw[so (λk hk=>h k (by omega)),h m (by omega)]
theorem kH:∀{m:Nat} {f:Nat->Bool},i_ m f=0->∀k,k<m->f k=true
 |0,f,_,k,hk=>by omega
 |m+1,f,h,k,hk=>by
  simp only[i_]at h;cases hf:f m with
  |false=>simp[hf]at h
  |true=>
   simp[hf]at h;by_cases e:k=m
   ·rw[e];exact hf
   ·exact kH h k (by omega)
theorem lR:∀{m:Nat} {f:Nat->Bool},0<i_ m f->∃i,i<m/\f i=false/\∀k,k<i->f k=true
 |0,f,h=>by simp[i_]at h
 |m+1,f,h=>by
  by_cases h0:0<i_ m f
  ·obtain⟨i,h1,h2,h3⟩:=lR h0;exact⟨i,by omega,h2,h3⟩
  ·have h1:i_ m f=0:=by omega
   simp only[i_,h1]at h;cases hf:f m with
   |false=>exact⟨m,by omega,hf,kH h1⟩
   |true=>simp[hf]at h
theorem oJ:∀{m:Nat} {f:Nat->Bool} {i:Nat},i<m->f i=false->i_ m (λk=>if k=i then true else f k)+1=i_ m f
 |0,f,i,h,_=>by omega
 |m+1,f,i,h,hf=>by
  simp only[i_];by_cases e:i=m
  ·subst e;have:i_ i (λk=>if k=i then true else f k)=i_ i f:=so λk hk=>by simp[show k≠i by omega]
   simp only[this,if_true,hf,cond_true,cond_false,Nat.add_zero]
  ·have:=oJ (m:=m) (f:=f) (i:=i) (by omega) hf;have h2:m≠i:=by omega
   simp only[h2,if_false];omega
def zt(X:bq)(I:Hp->Prop)(ops:Array Oper)(o:Oper)(e:Ef)(st:St):Prop:=∀FE,Ag ops o e st FE->I FE.H->jE X ops o FE (e.app FE)
inductive lS(X:bq)(I:Hp->Prop)(ops:Array Oper):List Oper->St->List Ef->St->Prop where
 |nil (st:St):lS X I ops [] st [] st
 |cons {o:Oper} {os:List Oper} {st FM:St} {e:Ef} {es:List Ef} (h:zt X I ops o e st) (hd:e.d=o.dst) (k:lS X I ops os (e.app st) es FM):lS X I ops (o::os) st (e::es) FM
def E4(X:bq)(I:Hp->Prop)(ops:Array Oper)(l:List Oper)(st:St)(post:List Ef->St->Prop):Prop:=∃es FM,lS X I ops l st es FM/\post es FM
theorem lS.spec{X:bq}{I:Hp->Prop}{HC:Array Oper}{l:List Oper}{st FM:St}{es:List Ef}(h:lS X I HC l st es FM):
  es.length=l.length/\FM=es.foldl (λs e=>e.app s) st/\∀(i:Nat) o e,l[i]?=some o->es[i]?=some e->zt X I HC o e ((es.take i).foldl (λs e=>e.app s) st)/\e.d=o.dst:=by
 induction h with
 |nil st=>exact⟨rfl,rfl,by simp⟩
 |cons h hd k ih=>
  obtain⟨h1,h2,h3⟩:=ih;refine⟨by simp[h1],h2,λi o e ho he=>?_⟩;cases i with
  |zero=>simp at ho he;subst ho;subst he;exact⟨h,hd⟩
  |succ i=>simp at ho he;exact h3 i o e ho he
def oK(ops:List Oper)(k:Nat):Bool:=match(dH ops)[k]? with
 |some b=>(List.range ops.length).all λi=>Nat.beq i k||has b i
 |none=>false
theorem qK{ops:List Oper}{k:Nat}(h:oK ops k=true)(i:Nat)(hi:i<ops.length)(FV:i≠k):∃b,(dH ops)[k]?=some b/\i∈b:=by
 unfold oK at h;split at h
 ·rename_i b hb;rw[List.all_eq_true]at h;have:=h i (List.mem_range.2 hi);rw[Bool.or_eq_true]at this;rcases this with h1|h1
  ·exact absurd (Nat.eq_of_beq_eq_true h1) FV
  ·exact⟨b,hb,cJ.1 h1⟩
 ·cases h
def iO(I:Hp->Prop)(ops:List Oper):Nat->List Ef->Prop
 |_,[]=>True
 |k,e::r=>(match e.wh with|none=>True|some h=>I h\/oK ops k=true)/\iO I ops (k+1) r
theorem iO.DE{I:Hp->Prop}{ops:List Oper} :∀{es:List Ef} {n:Nat},iO I ops n es->∀(k:Nat) f,es[k]?=some f->∀h,f.wh=some h->I h\/oK ops (n+k)=true
 |[],_,_,k,f,hk,_,_=>by simp at hk
 |a::r,n,⟨h1,h2⟩,k,f,hk,h,hh=>by
  cases k with
  |zero=>simp at hk;subst hk;rw[hh]at h1;exact h1
  |succ k=>
   simp at hk;have:=h2.DE k f hk h hh
   rwa [show n+1+k=n+(k+1) by omega]at this
theorem iO.mem{I:Hp->Prop}{ops:List Oper}{es:List Ef}(h:iO I ops 0 es)(k:Nat)(f:Ef)(hk:es[k]?=some f)(H:Hp)(hh:f.wh=some H):I H\/oK ops k=true:=by
 have:=h.DE k f hk H hh
 rwa [Nat.zero_add]at this
theorem sp{st:St}{es:List Ef}(I:Hp->Prop)(h0:I st.H){L:Nat->Bool}(hs:∀(k:Nat) f h,es[k]?=some f->L k=true->f.wh=some h->I h):∀n,I (S st es L n).H
 |0=>h0
 |n+1=>by
  simp only[S];have ih:=sp I h0 hs n;cases he:es[n]? with
  |none=>exact ih
  |some e=>
   simp only;cases hL:L n with
   |false=>exact ih
   |true=>
    simp only[cond_true,Ef.app];cases hw:e.wh with
    |none=>exact ih
    |some h=>exact hs n e h he hL hw
theorem TC.DZ{X:bq}{id:Nat}{ops:List Oper}{st:St}{post:Exit->St->Prop}(I:Hp->Prop)(Oz:I st.H)(hm:X.P.follows .mixedOrders=true)
  (h:E4 X I ops.toArray ops st λes FM=>gk ops st.sl es=true/\iO I ops 0 es/\post .normal FM):TC X (.region id ops.toArray true) st post:=by
 obtain⟨es,FM,GJ,Gl,OA,HX⟩:=h;obtain⟨hlen,K0,HJ⟩:=GJ.spec;simp only[gk,Bool.and_eq_true]at Gl;obtain⟨⟨JY,Je⟩,Jf⟩:=Gl;have hE:=iN JY;have hP:=fu Je;have Hj:FM=S st es (λ_=>true) ops.length:=by rw[c8,List.take_of_length_le (by omega),K0]
 have Ht:∀(k:Nat) e,es[k]?=some e->∃o b,ops[k]?=some o/\(dH ops)[k]?=some b/\e.d=o.dst/\k<ops.length:=by
  intro k e he;have hk:k<es.length:=by rcases Nat.lt_or_ge k es.length with h|h;exact h;simp[List.getElem?_eq_none h]at he
  have ho:ops[k]?=some ops[k]:=by simp[show k<ops.length by omega]
  have hb:k<(dH ops).length:=by rw[fg];omega
  exact⟨ops[k],(dH ops)[k],ho,by simp[hb],(HJ k _ e ho he).2,by omega⟩
 have Jx:∀(k:Nat) e d,es[k]?=some e->e.nw=some d->dv d st.sl=true:=by
  have:∀(l:List Ef),eH st.sl l=true->∀(k:Nat) e d,l[k]?=some e->e.nw=some d->dv d st.sl=true:=by
   intro l
   induction l with
   |nil=>intro _ k e d h;simp at h
   |cons x l ih=>
    intro hl k e d he hd;simp only[eH,Bool.and_eq_true]at hl;cases k with
    |zero=>simp at he;subst he;simpa [hd] using hl.1
    |succ k=>simp at he;exact ih hl.2 k e d he hd
  exact this es Jf
 intro a w hi;refine wp_region_any hm ?_;have main:∀(GL:Nat) (listed:Array Bool) (a:Act) (w:World),listed.size=ops.length->i_ ops.length (λk=>listed.getD k false)=GL->
   (∀j b,listed.getD j false=true->(dH ops)[j]?=some b->∀i∈b,listed.getD i false=true)->
   Inv X (S st es (λk=>listed.getD k false) ops.length) a w->
   wpAny X.P .any ops.toArray (λe a' w'=>∃FM,post e FM/\Inv X FM a' w') GL listed a w:=by
  intro GL
  induction GL with
  |zero=>
   intro listed a w Gd hc FX hinv;have hz:=kH hc;refine⟨?_,FM,HX,?_⟩
   ·unfold Region.ready;rw[List.filter_eq_nil_iff];intro i hi;simp at hi;have h1:=hz i hi;have h2:i<listed.size:=by omega
    simp[h2]at h1;simp[h2,h1]
   ·have e:S st es (λk=>listed.getD k false) ops.length=FM:=by
     rw[Hj];have:∀n,n<=ops.length->S st es (λk=>listed.getD k false) n=S st es (λ_=>true) n:=by
      intro n
      induction n with
      |zero=>intro _;rfl
      |succ n ih=>
       intro hn;simp only[S,ih (by omega),hz n (by omega)]
     exact this _ (Nat.le_refl _)
    rw[<-e];exact hinv
  |succ GL ih=>
   intro listed a w Gd hc FX hinv;have mem_ready:∀i,i∈Region.ready .any ops.toArray listed↔i<ops.length/\listed.getD i true=false/\∃o,ops[i]?=some o/\∀e∈o.after.toList,Region.binds .any e=true->listed.getD e.on false=true:=by
    intro i;unfold Region.ready;rw[List.mem_filter];simp only[List.mem_range,List.size_toArray,Bool.and_eq_true,Bool.not_eq_true',List.getElem?_toArray];constructor
    ·rintro⟨h1,h2,h3⟩;refine⟨h1,h2,ops[i],by simp[h1],?_⟩;simp[h1]at h3;intro e he hb;have Mu:e∈ops[i].after:=by simpa using he
     obtain⟨n,hn,rfl⟩:=Array.mem_iff_getElem.1 Mu;rcases h3 n hn with h4|h4
     ·rw[h4]at hb;cases hb
     ·simpa using h4
    ·rintro⟨h1,h2,o,h3,h4⟩;refine⟨h1,h2,?_⟩;have:ops[i]=o:=by simpa [h1] using h3
     simp[h1,this];intro n hn;cases hb:Region.binds .any o.after[n]with
     |false=>exact .inl rfl
     |true=>right;simpa using h4 o.after[n] (by simp) hb
   refine⟨?_,?_⟩
   ·intro hr;obtain⟨i,h1,h2,h3⟩:=lR (m:=ops.length) (f:= λk=>listed.getD k false) (by omega);have:i∈Region.ready .any ops.toArray listed:=by
     rw[mem_ready];have Jg:i<listed.size:=by omega
     refine⟨h1,by simp[Jg]at h2⊢;exact h2,ops[i],by simp[h1],?_⟩;intro e he hb;have:=hE i ops[i] (by simp[h1]) e he hb;exact h3 e.on (by omega)
    rw[hr]at this;cases this
   ·intro i I6;obtain⟨HK,Jh,o,ho,Ji⟩:=(mem_ready i).1 I6;have Jg:i<listed.size:=by omega
    have GH:listed.getD i false=false:=by simp[Jg]at Jh⊢;exact Jh
    have KH:i<es.length:=by omega
    obtain⟨e,he⟩:∃e,es[i]?=some e:=⟨es[i],by simp[KH]⟩;have GW:i<(dH ops).length:=by rw[fg];exact HK
    obtain⟨bi,Io⟩:∃b,(dH ops)[i]?=some b:=⟨(dH ops)[i],by simp[GW]⟩;have ahead:∀k,k∈bi->listed.getD k false=true:=by
     intro k hk;obtain⟨ed,h1,h2,h3⟩:=pH ho Io hk;have h4:=Ji ed h1 h2;rcases h3 with h3|⟨b',h5,_,h6⟩
     ·rw[<-h3];exact h4
     ·exact FX _ b' h4 h5 k h6
    have early:∀(k:Nat) f,k<i->es[k]?=some f->∀x,ops[k]?=some x->bU ops.toArray x o f e=true->listed.getD k false=true:=by
     intro k f hk hf x hx hc;have:=(hP k i x f o e bi hk hx hf ho he Io).1 hc;simp at this;exact ahead k this
    have late:∀(k:Nat) f,i<k->es[k]?=some f->∀x,ops[k]?=some x->bU ops.toArray o x e f=true->listed.getD k false=false:=by
     intro k f hk hf x hx hc;obtain⟨_,b,_,hb,_,_⟩:=Ht k f hf;have:=(hP i k o e x f b hk ho he hx hf hb).1 hc;simp at this;cases hl:listed.getD k false with
     |false=>rfl
     |true=>rw[FX k b hl hb i this]at GH;cases GH
    obtain⟨Ig,NZ⟩:=HJ i o e ho he;have Mv:(es.take i).foldl (λs e=>e.app s) st=S st es (λ_=>true) i:=(c8 st es i).symm;rw[Mv]at Ig;have GY:∀t k,(eh es t).W k=true->∃f x,es[k]?=some f/\ops[k]?=some x/\f.d=some t/\x.dst=some t:=by
     intro t k hw;simp only[eh]at hw;split at hw
     ·rename_i f hf;split at hw
      ·rename_i d hd;have:=Nat.eq_of_beq_eq_true hw;subst this;obtain⟨x,b,hx,_,HD,_⟩:=Ht k f hf;exact⟨f,x,hf,hx,hd,by rw[<-HD];exact hd⟩
      ·cases hw
     ·cases hw
    have Hl:∀t k,(eX es t).W k=true->∃f x,es[k]?=some f/\ops[k]?=some x/\t∈f.wb.map (·.1):=by
     intro t k hw;simp only[eX]at hw;split at hw
     ·rename_i f hf;obtain⟨x,b,hx,_,_,_⟩:=Ht k f hf;exact⟨f,x,hf,hx,cJ.1 hw⟩
     ·cases hw
    have HS:∀k,(gJ es).W k=true->∃f x,es[k]?=some f/\ops[k]?=some x/\f.wh.isSome=true:=by
     intro k hw;simp only[gJ]at hw;split at hw
     ·rename_i f hf;obtain⟨x,b,hx,_,_,_⟩:=Ht k f hf;exact⟨f,x,hf,hx,hw⟩
     ·cases hw
    have Hm:∀(l:List (Nat×List M)) (r:List Nat) (t:Nat),t∈l.map (·.1)->t∈r->(l.any λp=>has r p.1)=true:=by
     intro l r t h1 h2;rw[List.any_eq_true];obtain⟨p,hp,rfl⟩:=List.mem_map.1 h1;exact⟨p,hp,cJ.2 h2⟩
    have Ly:Ag ops.toArray o e (S st es (λ_=>true) i) (S st es (λk=>listed.getD k false) ops.length):=by
     refine⟨?_,?_,?_,?_⟩
     ·intro t ht;refine fk (eh es t) _ i ops.length (by omega) ?_ ?_
      ·intro k hk hw;obtain⟨f,x,hf,hx,_,HD⟩:=GY t k hw;refine early k f hk hf x hx ?_;have:has (slotsOf ops.toArray o) t=true:=cJ.2 (by simp[slotsOf,ht]);simp[bU,HD,this]
      ·intro k hk Gi hw;by_cases G6:k=i
       ·rw[G6];exact GH
       ·obtain⟨f,x,hf,hx,_,HD⟩:=GY t k hw;refine late k f (by omega) hf x hx ?_;have:has (slotsOf ops.toArray o) t=true:=cJ.2 (by simp[slotsOf,ht]);simp[bU,HD,this]
     ·intro t ht;refine fk (eX es t) _ i ops.length (by omega) ?_ ?_
      ·intro k hk hw;obtain⟨f,x,hf,hx,G0⟩:=Hl t k hw;refine early k f hk hf x hx ?_;have:=Hm f.wb _ t G0 ht;simp[bU,this]
      ·intro k hk Gi hw;by_cases G6:k=i
       ·rw[G6];exact GH
       ·obtain⟨f,x,hf,hx,G0⟩:=Hl t k hw;refine late k f (by omega) hf x hx ?_;have:=Hm f.wb _ t G0 ht;simp[bU,this]
     ·intro Ih;refine fk (gJ es) _ i ops.length (by omega) ?_ ?_
      ·intro k hk hw;obtain⟨f,x,hf,hx,HE⟩:=HS k hw;refine early k f hk hf x hx ?_;simp only[Bool.or_eq_true]at Ih;rcases Ih with Ih|Ih<;>simp[bU,HE,Ih]
      ·intro k hk Gi hw;by_cases G6:k=i
       ·rw[G6];exact GH
       ·obtain⟨f,x,hf,hx,HE⟩:=HS k hw;refine late k f (by omega) hf x hx ?_;simp only[Bool.or_eq_true]at Ih;rcases Ih with Ih|Ih<;>simp[bU,HE,Ih]
     ·intro d hd t oo hg;have key:∀n,n<=ops.length->get (S st es (λk=>listed.getD k false) n).sl t=some (.loc d oo)->False:=by
       intro n
       induction n with
       |zero=>
        intro _ hg;exact nO (Jx i e d he hd) hg
       |succ n Jj=>
        intro hn hg;simp only[S]at hg;cases G7:es[n]? with
        |none=>simp only[G7]at hg;exact Jj (by omega) hg
        |some f=>
         simp only[G7]at hg;cases hl:listed.getD n false with
         |false=>rw[hl]at hg;exact Jj (by omega) hg
         |true=>
          rw[hl]at hg;simp only[cond_true,Ef.app]at hg;obtain⟨x,b,hx,hb,HD,_⟩:=Ht n f G7;cases IU:f.d with
          |none=>simp only[IU]at hg;exact Jj (by omega) hg
          |some d'=>
           simp only[IU]at hg;rcases bf hg with⟨_,h2⟩|⟨_,h2⟩
           ·have FV:n≠i:=by rintro rfl;rw[hl]at GH;cases GH
            rcases Nat.lt_or_gt_of_ne FV with FJ|Mw
            ·have:=(hP n i x f o e bi FJ hx G7 ho he Io).2;simp[f_,hd,<-h2]at this
            ·have:=late n f Mw G7 x hx (by simp[bU,hd,<-h2]);rw[this]at hl;cases hl
           ·exact Jj (by omega) h2
      exact key _ (Nat.le_refl _) hg
    have IG:=Ig _ Ly (sp I Oz (λk f h hk hL hw=>(OA.mem k f hk h hw).resolve_right λhl=>by
     have G6:k≠i:=by rintro rfl;rw[GH]at hL;cases hL
     obtain⟨b,hb,Io⟩:=qK hl i HK (Ne.symm G6);have:=FX k b hL hb i Io;rw[GH]at this;cases this) _)
    have JZ:∀a' w',Inv X (e.app (S st es (λk=>listed.getD k false) ops.length)) a' w'->wpAny X.P .any ops.toArray (λe a' w'=>∃FM,post e FM/\Inv X FM a' w') GL (listed.setIfInBounds i true) a' w':=by
     intro a' w' Hn;have H4:(λk=>(listed.setIfInBounds i true).getD k false)= λk=>if k=i then true else listed.getD k false:=by
      funext k
      by_cases hk:k=i
      ·subst hk;simp[Jg]
      ·simp[hk,Array.getElem?_setIfInBounds_ne (Ne.symm hk)]
     refine ih _ a' w' (by simp[Gd]) ?_ ?_ ?_
     ·rw[H4];have:=oJ (m:=ops.length) (f:= λk=>listed.getD k false) HK GH;omega
     ·intro j b hj hb k hk;have Hs:(if j=i then true else listed.getD j false)=true:=by rw[<-congrFun H4 j];exact hj
      have JC:(if k=i then true else listed.getD k false)=true:=by
       by_cases G6:k=i
       ·simp[G6]
       ·rw[if_neg G6];by_cases Kj:j=i
        ·subst Kj;rw[Io]at hb;injection hb with hb;subst hb
         exact ahead k hk
        ·rw[if_neg Kj]at Hs;exact FX j b Hs hb k hk
      rw[<-congrFun H4 k]at JC;exact JC
     ·rw[H4];have g1:∀t,get (S st es (λk=>if k=i then true else listed.getD k false) ops.length).sl t=get (e.app (S st es (λk=>listed.getD k false) ops.length)).sl t:=by
       intro t;refine jG (eh es t) _ i ops.length HK e he GH ?_;intro Is k hk Gi Hi;obtain⟨f,x,hf,hx,_,HD⟩:=GY t k Hi;obtain⟨f',x',GX,HT,_,K8⟩:=GY t i Is;rw[ho]at HT;injection HT with HT;subst HT
       refine late k f hk hf x hx ?_;have:has (slotsOf ops.toArray o) t=true:=cJ.2 (by simp[slotsOf,K8]);simp[bU,HD,this]
      have g2:∀t,get (S st es (λk=>if k=i then true else listed.getD k false) ops.length).bx t=get (e.app (S st es (λk=>listed.getD k false) ops.length)).bx t:=by
       intro t;refine jG (eX es t) _ i ops.length HK e he GH ?_;intro Is k hk Gi Hi;obtain⟨f,x,hf,hx,G0⟩:=Hl t k Hi;obtain⟨f',x',GX,HT,Jk⟩:=Hl t i Is;rw[he]at GX;injection GX with GX;subst GX
       refine late k f hk hf x hx ?_;have:=Hm f.wb (e.rb++e.wb.map (·.1)) t G0 (List.mem_append.2 (.inr Jk));simp[bU,this]
      have g3:(S st es (λk=>if k=i then true else listed.getD k false) ops.length).H=(e.app (S st es (λk=>listed.getD k false) ops.length)).H:=by
       refine jG (gJ es) _ i ops.length HK e he GH ?_;intro Is k hk Gi Hi;obtain⟨f,x,hf,hx,HE⟩:=HS k Hi;obtain⟨f',x',GX,HT,Mx⟩:=HS i Is;rw[he]at GX;injection GX with GX;subst GX
       refine late k f hk hf x hx ?_;simp[bU,HE,Mx]
      have:=Inv.fJ (X:=X) (sl:=(e.app (S st es (λk=>listed.getD k false) ops.length)).sl) (bx:=(e.app (S st es (λk=>listed.getD k false) ops.length)).bx) (H:=(e.app (S st es (λk=>listed.getD k false) ops.length)).H)
       (Gy:=(S st es (λk=>if k=i then true else listed.getD k false) ops.length).sl) (Jv:=(S st es (λk=>if k=i then true else listed.getD k false) ops.length).bx) Hn
       (λt v hv=>by rw[<-g1];exact hv) g2
      rw[<-g3]at this;exact this
    have:=IG a w hinv (wpAny X.P .any ops.toArray (λe a' w'=>∃FM,post e FM/\Inv X FM a' w') GL (listed.setIfInBounds i true)) (λe a' w'=>∃FM,post e FM/\Inv X FM a' w') JZ;unfold wpOp;have K9:ops.toArray[i]?=some o:=by simpa using ho
    simp only[K9];split
    ·rename_i hw;rw[if_pos hw]at this;exact .inl this
    ·rename_i hw;rw[if_neg hw]at this;exact this
 refine main _ _ a _ (by simp) ?_ ?_ ?_
 ·have:∀n,i_ n (λk=>(Array.replicate ops.toArray.size false).getD k false)=n:=by
   intro n
   induction n with
   |zero=>rfl
   |succ n ih=>
    simp only[i_,ih];have:(Array.replicate ops.toArray.size false).getD n false=false:=by simp[Array.getElem?_replicate];split<;>rfl
    rw[this];rfl
  simpa using this ops.length
 ·intro j b hj;have:(Array.replicate ops.toArray.size false).getD j false=false:=by simp[Array.getElem?_replicate];split<;>rfl
  rw[this]at hj;cases hj
 ·have hz:∀n,S st es (λk=>(Array.replicate ops.toArray.size false).getD k false) n=st:=by
   intro n
   induction n with
   |zero=>rfl
   |succ n ih=>
    have:(Array.replicate ops.toArray.size false).getD n false=false:=by simp[Array.getElem?_replicate];split<;>rfl
    simp only[S,ih,this];cases es[n]?<;>rfl
  rw[hz];obtain⟨σ,FC,rfl,hi⟩:=hi;exact⟨{σ with w:={σ.w with drawn:=σ.w.drawn+1} },FC,rfl,hi.ext (dq.drew _)⟩
theorem ka.fi{X:bq}{I:Hp->Prop}{ops:Array Oper}{l:List Oper}{st FM:St}{es:List Ef}(h:ka X ops l st es FM):lS X I ops l st es FM:=by
 induction h with
 |nil st=>exact .nil st
 |cons h hd k ih=>exact .cons (λFE ag _=>h FE ag) hd ih
theorem iO.all{I:Hp->Prop}{ops:List Oper} :∀{es:List Ef} {n:Nat},(∀e∈es,∀h,e.wh=some h->I h)->iO I ops n es
 |[],_,_=>trivial
 |e::r,n,h=>⟨by split;trivial;rename_i hw;exact .inl (h e List.mem_cons_self _ hw),iO.all λf hf=>h f (List.mem_cons_of_mem _ hf)⟩
theorem TC.draw{X:bq}{id:Nat}{ops:List Oper}{st:St}{post:Exit->St->Prop}(hm:X.P.follows .mixedOrders=true)
  (h:TF X ops.toArray ops st λes FM=>gk ops st.sl es=true/\post .normal FM):TC X (.region id ops.toArray true) st post:=by
 obtain⟨es,FM,GJ,Gl,HX⟩:=h;exact TC.DZ (λ_=>True) trivial hm ⟨es,FM,GJ.fi,Gl,.all λ_ _ _ _=>trivial,HX⟩
section rules
variable{X:bq}{ops:Array Oper}{rest:List Oper}{post:List Ef->St->Prop}{sl:List (Nat×V)}{bx:List (Nat×List M)}{H:Hp}{d ty:Nat}{pos:String}{af:Array Edge}
theorem Ag.ev{o:Oper}{e:Ef}{st FE:St}(h:Ag ops o e st FE){x:Operand}(hx:x∈o.op.operands.toList):FE.ev x=st.ev x:=by
 cases x with
 |tmp t=>
  refine h.sl t ?_;unfold Oper.looksAt;refine List.mem_append.2 (.inl ?_);rw[List.mem_filterMap];exact⟨.tmp t,hx,rfl⟩
 |_=>rfl
theorem aK.An{o:Oper}{st FM:St}{v:V}(hg:o.guard=none)(hd:o.dst=some d)(hn:d<X.n)(h:aK X o st (bt v FM)):jE X ops o st ⟨(d,v)::FM.sl,FM.bx,FM.H⟩:=by
 rintro a w ⟨σ,FC,rfl,hi⟩ K Q hK;rw[if_pos (by simp[Region.wanted,hg])];refine(h a σ FC hi).wp ?_;rintro u w' ⟨v',s',FO,F7,⟨rfl,rfl⟩,rfl,h3,h4⟩;rw[hd];exact hK _ _ ⟨FO,F7,rfl,h3.set hn h4⟩
theorem aK.zu{o:Oper}{st FM:St}{v:V}(hg:o.guard=none)(hd:o.dst=none)(h:aK X o st (bt v FM)):jE X ops o st FM:=by
 rintro a w ⟨σ,FC,rfl,hi⟩ K Q hK;rw[if_pos (by simp[Region.wanted,hg])];refine(h a σ FC hi).wp ?_;rintro u w' ⟨v',s',FO,F7,⟨rfl,rfl⟩,rfl,h3,h4⟩;rw[hd];exact hK _ _ ⟨FO,F7,rfl,h3⟩
theorem bK.quiet{o:Oper}{v:V}{rb:List Nat}{rh:Bool}{st:St}(hg:o.guard=none)(hd:o.dst=some d)(hn:d<X.n)
  (h:∀FE,Ag ops o ⟨some d,v,rb,[],none,rh,none⟩ st FE->aK X o FE (bt v FE)):bK X ops o ⟨some d,v,rb,[],none,rh,none⟩ st:=
 λFE ag=>(h FE ag).An hg hd hn
theorem bK.writes{o:Oper}{v:V}{rb:List Nat}{wb:List (Nat×List M)}{st:St}(hg:o.guard=none)(hd:o.dst=none)
  (h:∀FE,Ag ops o ⟨none,v,rb,wb,none,false,none⟩ st FE->aK X o FE (bt v ⟨FE.sl,wb++FE.bx,FE.H⟩)):bK X ops o ⟨none,v,rb,wb,none,false,none⟩ st:=
 λFE ag=>(h FE ag).zu hg hd
theorem ay{dst:Option Nat}{op:Op}{j g:Nat}{w:Bool}{post:List Ef->St->Prop}(hj:(ops[j]?).bind (·.dst)=some g)(hb:get sl g=some (.m (.d (.bool w))))
  (k:TF X ops (⟨dst,op,ty,pos,af,none⟩::rest) ⟨sl,bx,H⟩ post):TF X ops (⟨dst,op,ty,pos,af,some (j,w)⟩::rest) ⟨sl,bx,H⟩ post:=by
 obtain⟨es,FM,hr,hp⟩:=k;cases hr with
 |cons h hd hk=>
  rename_i e es;refine⟨e::es,FM,.cons ?_ hd hk,hp⟩;intro FE ag;have Lz:get FE.sl g=some (.m (.d (.bool w))):=by
   rw[<-hb];refine ag.sl g ?_;unfold Oper.looksAt;refine List.mem_append.2 (.inr ?_);simp[hj]
  have PC:Ag ops ⟨dst,op,ty,pos,af,none⟩ e ⟨sl,bx,H⟩ FE:=
   ⟨λt ht=>ag.sl t (by
    unfold Oper.looksAt at ht⊢;simp only[List.append_nil]at ht;exact List.mem_append.2 (.inl ht)),ag.bx,ag.H,ag.nw⟩
  have h1:=h FE PC;rintro a w' ⟨σ,FC,Ki,hi⟩ K Q hK;have h2:=h1 a w' ⟨σ,FC,Ki,hi⟩ K Q hK;have hw:ea ops ⟨dst,op,ty,pos,af,some (j,w)⟩ FE=some true:=by simp[ea,hj,Lz]
  rw[if_pos (hi.wanted hw)];rw[if_pos (by simp[Region.wanted])]at h2;have ee:execOp a.eval ⟨dst,op,ty,pos,af,some (j,w)⟩=execOp a.eval ⟨dst,op,ty,pos,af,none⟩:=by cases op<;>rfl
  unfold Oper.wp at h2⊢;rw[ee];exact h2
theorem kb{op:Op}{j g:Nat}{w b:Bool}{post:List Ef->St->Prop}(hn:Nat.blt d X.n=true)(hj:(ops[j]?).bind (·.dst)=some g)(hb:get sl g=some (.m (.d (.bool b))))(K_:(b==w)=false)
  (k:TF X ops rest ⟨(d,.m (.bz []))::sl,bx,H⟩ λes zz=>post (⟨some d,.m (.bz []),[],[],none,false,none⟩::es) zz):TF X ops (⟨some d,op,ty,pos,af,some (j,w)⟩::rest) ⟨sl,bx,H⟩ post:=by
 refine TF.cons (e:=⟨some d,.m (.bz []),[],[],none,false,none⟩) ?_ rfl k;intro FE ag;have Lz:get FE.sl g=some (.m (.d (.bool b))):=by
  rw[<-hb];refine ag.sl g ?_;unfold Oper.looksAt;refine List.mem_append.2 (.inr ?_);simp[hj]
 rintro a w' ⟨σ,FC,Ki,hi⟩ K Q hK;have hw:ea ops ⟨some d,op,ty,pos,af,some (j,w)⟩ FE=some false:=by simp[ea,hj,Lz,K_]
 rw[if_neg (by rw[hi.wanted hw];simp)];exact hK _ _ ⟨σ,FC,Ki,hi.set (aQ hn) (.m (.bz [] #[] rfl (by intro i m v h;simp at h)))⟩
theorem aH{x:Operand}{v:V}(hn:Nat.blt d X.n=true)(hx:ba sl x=some v)(k:TF X ops rest ⟨(d,v)::sl,bx,H⟩ λes zz=>post (⟨some d,v,[],[],none,false,none⟩::es) zz):
  TF X ops (⟨some d,.move x,ty,pos,af,none⟩::rest) ⟨sl,bx,H⟩ post:=
 TF.cons (e:=⟨some d,v,[],[],none,false,none⟩) (bK.quiet rfl rfl (aQ hn) λFE ag=>rZ ((ag.ev (x:=x) (by simp[Op.operands,Call.operands])).trans hx)) rfl k
theorem eA{x:Operand}{v:V}(hn:Nat.blt d X.n=true)(hx:ba sl x=some v)(k:TF X ops rest ⟨(d,v)::sl,bx,H⟩ λes zz=>post (⟨some d,v,[],[],none,false,none⟩::es) zz):
  TF X ops (⟨some d,.assign x,ty,pos,af,none⟩::rest) ⟨sl,bx,H⟩ post:=
 TF.cons (e:=⟨some d,v,[],[],none,false,none⟩) (bK.quiet rfl rfl (aQ hn) λFE ag=>nk ((ag.ev (x:=x) (by simp[Op.operands,Call.operands])).trans hx)) rfl k
theorem fT{c x y:Operand}{b:Bool}{v:V}(hn:Nat.blt d X.n=true)(hc:ba sl c=some (.m (.d (.bool b))))(hx:ba sl (bif b then x else y)=some v)(k:TF X ops rest ⟨(d,v)::sl,bx,H⟩ λes zz=>post (⟨some d,v,[],[],none,false,none⟩::es) zz):
  TF X ops (⟨some d,.pick c x y,ty,pos,af,none⟩::rest) ⟨sl,bx,H⟩ post:=by
 refine TF.cons (e:=⟨some d,v,[],[],none,false,none⟩) (bK.quiet rfl rfl (aQ hn) λFE ag=>?_) rfl k;cases b
 ·exact nr ((ag.ev (x:=c) (by simp[Op.operands])).trans hc) ((ag.ev (x:=y) (by simp[Op.operands])).trans hx)
 ·exact nq ((ag.ev (x:=c) (by simp[Op.operands])).trans hc) ((ag.ev (x:=x) (by simp[Op.operands])).trans hx)
theorem ga{op:BinOp}{xt yt:Nat}{x y:Operand}{kk:IntKind}{m n:Int}{r:D}(hn:Nat.blt d X.n=true)(hx:ba sl x=some (.m (.d (.int kk m))))(hy:ba sl y=some (.m (.d (.int kk n))))(hr:iK op kk m n=some r)(k:TF X ops rest ⟨(d,(.m (.d r)))::sl,bx,H⟩ λes zz=>post (⟨some d,(.m (.d r)),[],[],none,false,none⟩::es) zz):
  TF X ops (⟨some d,.binOp op xt x y yt,ty,pos,af,none⟩::rest) ⟨sl,bx,H⟩ post:=
 TF.cons (e:=⟨some d,(.m (.d r)),[],[],none,false,none⟩) (bK.quiet rfl rfl (aQ hn) λFE ag=>vk ((ag.ev (x:=x) (by simp[Op.operands,Call.operands])).trans hx) ((ag.ev (x:=y) (by simp[Op.operands,Call.operands])).trans hy) hr) rfl k
theorem D0{x:Operand}{xt:Nat}{b:Bool}(hn:Nat.blt d X.n=true)(hx:ba sl x=some (.m (.d (.bool b))))(k:TF X ops rest ⟨(d,(.m (.d (.bool (!b)))))::sl,bx,H⟩ λes zz=>post (⟨some d,(.m (.d (.bool (!b)))),[],[],none,false,none⟩::es) zz):
  TF X ops (⟨some d,.unOp .not xt x,ty,pos,af,none⟩::rest) ⟨sl,bx,H⟩ post:=
 TF.cons (e:=⟨some d,(.m (.d (.bool (!b)))),[],[],none,false,none⟩) (bK.quiet rfl rfl (aQ hn) λFE ag=>vl ((ag.ev (x:=x) (by simp[Op.operands,Call.operands])).trans hx)) rfl k
theorem Ao{x y:Operand}{xt yt:Nat}{s u:ByteArray}(hn:Nat.blt d X.n=true)(hx:ba sl x=some (.m (.d (.str s))))(hy:ba sl y=some (.m (.d (.str u))))(hs:s.size+u.size<=9223372036854775807)(k:TF X ops rest ⟨(d,(.m (.d (.str (s++u)))))::sl,bx,H⟩ λes zz=>post (⟨some d,(.m (.d (.str (s++u)))),[],[],none,false,none⟩::es) zz):
  TF X ops (⟨some d,.binOp .add xt x y yt,ty,pos,af,none⟩::rest) ⟨sl,bx,H⟩ post:=
 TF.cons (e:=⟨some d,(.m (.d (.str (s++u)))),[],[],none,false,none⟩) (bK.quiet rfl rfl (aQ hn) λFE ag=>nI ((ag.ev (x:=x) (by simp[Op.operands,Call.operands])).trans hx) ((ag.ev (x:=y) (by simp[Op.operands,Call.operands])).trans hy) hs) rfl k
theorem bY{s f:Nat}{x:Operand}{cs:List D}{off o:Nat}[hf:aI X.P s f o](hn:Nat.blt d X.n=true)(hx:ba sl x=some (.m (.d (.bM cs off))))(k:TF X ops rest ⟨(d,(.m (.d (.bM cs (off+o)))))::sl,bx,H⟩ λes zz=>post (⟨some d,(.m (.d (.bM cs (off+o)))),[],[],none,false,none⟩::es) zz):
  TF X ops (⟨some d,.fieldAddr s x f,ty,pos,af,none⟩::rest) ⟨sl,bx,H⟩ post:=
 TF.cons (e:=⟨some d,(.m (.d (.bM cs (off+o)))),[],[],none,false,none⟩) (bK.quiet rfl rfl (aQ hn) λFE ag=>nu ((ag.ev (x:=x) (by simp[Op.operands,Call.operands])).trans hx)) rfl k
theorem aP{s f:Nat}{x:Operand}{t off o:Nat}[hf:aI X.P s f o](hn:Nat.blt d X.n=true)(hx:ba sl x=some (.loc t off))(k:TF X ops rest ⟨(d,(.loc t (off+o)))::sl,bx,H⟩ λes zz=>post (⟨some d,(.loc t (off+o)),[],[],none,false,none⟩::es) zz):
  TF X ops (⟨some d,.fieldAddr s x f,ty,pos,af,none⟩::rest) ⟨sl,bx,H⟩ post:=
 TF.cons (e:=⟨some d,(.loc t (off+o)),[],[],none,false,none⟩) (bK.quiet rfl rfl (aQ hn) λFE ag=>ny ((ag.ev (x:=x) (by simp[Op.operands,Call.operands])).trans hx)) rfl k
theorem fU{s f:Nat}{x:Operand}{i off o:Nat}[hf:aI X.P s f o](hn:Nat.blt d X.n=true)(hx:ba sl x=some (.m (.ref i off)))(k:TF X ops rest ⟨(d,(.m (.ref i (off+o))))::sl,bx,H⟩ λes zz=>post (⟨some d,(.m (.ref i (off+o))),[],[],none,false,none⟩::es) zz):
  TF X ops (⟨some d,.fieldAddr s x f,ty,pos,af,none⟩::rest) ⟨sl,bx,H⟩ post:=
 TF.cons (e:=⟨some d,(.m (.ref i (off+o))),[],[],none,false,none⟩) (bK.quiet rfl rfl (aQ hn) λFE ag=>nz ((ag.ev (x:=x) (by simp[Op.operands,Call.operands])).trans hx)) rfl k
theorem mI{s f:Nat}{x:Operand}{i FD off o:Nat}[hf:aI X.P s f o](hn:Nat.blt d X.n=true)(hx:ba sl x=some (.m (.bG i FD off)))(k:TF X ops rest ⟨(d,(.m (.bG i FD (off+o))))::sl,bx,H⟩ λes zz=>post (⟨some d,(.m (.bG i FD (off+o))),[],[],none,false,none⟩::es) zz):
  TF X ops (⟨some d,.fieldAddr s x f,ty,pos,af,none⟩::rest) ⟨sl,bx,H⟩ post:=
 TF.cons (e:=⟨some d,(.m (.bG i FD (off+o))),[],[],none,false,none⟩) (bK.quiet rfl rfl (aQ hn) λFE ag=>nD ((ag.ev (x:=x) (by simp[Op.operands,Call.operands])).trans hx)) rfl k
theorem cx{t:Nat}{x:Operand}{cs:List D}{off:Nat}{v:D}[ht:cj X.P t](hn:Nat.blt d X.n=true)(hx:ba sl x=some (.m (.d (.bM cs off))))(hr:cs[off]?=some v)(k:TF X ops rest ⟨(d,(.m (.d v)))::sl,bx,H⟩ λes zz=>post (⟨some d,(.m (.d v)),[],[],none,false,none⟩::es) zz):
  TF X ops (⟨some d,.load t x,ty,pos,af,none⟩::rest) ⟨sl,bx,H⟩ post:=
 TF.cons (e:=⟨some d,(.m (.d v)),[],[],none,false,none⟩) (bK.quiet rfl rfl (aQ hn) λFE ag=>r9 ((ag.ev (x:=x) (by simp[Op.operands,Call.operands])).trans hx) hr) rfl k
theorem eB{t n:Nat}{x:Operand}{cs:List D}[ht:cL X.P t n](hn:Nat.blt d X.n=true)(hx:ba sl x=some (.m (.d (.bM cs 0))))(hr:cs.length=n)(k:TF X ops rest ⟨(d,(.m (.d (.agg cs))))::sl,bx,H⟩ λes zz=>post (⟨some d,(.m (.d (.agg cs))),[],[],none,false,none⟩::es) zz):
  TF X ops (⟨some d,.load t x,ty,pos,af,none⟩::rest) ⟨sl,bx,H⟩ post:=
 TF.cons (e:=⟨some d,(.m (.d (.agg cs))),[],[],none,false,none⟩) (bK.quiet rfl rfl (aQ hn) λFE ag=>r_ ((ag.ev (x:=x) (by simp[Op.operands,Call.operands])).trans hx) hr) rfl k
theorem eY{t n:Nat}{x:Operand}{cs ds:List D}{off:Nat}[ht:cL X.P t n](hn:Nat.blt d X.n=true)(hx:ba sl x=some (.m (.d (.bM cs off))))(hr:sub cs off n=some ds)(k:TF X ops rest ⟨(d,(.m (.d (.agg ds))))::sl,bx,H⟩ λes zz=>post (⟨some d,(.m (.d (.agg ds))),[],[],none,false,none⟩::es) zz):
  TF X ops (⟨some d,.load t x,ty,pos,af,none⟩::rest) ⟨sl,bx,H⟩ post:=
 TF.cons (e:=⟨some d,(.m (.d (.agg ds))),[],[],none,false,none⟩) (bK.quiet rfl rfl (aQ hn) λFE ag=>sa ((ag.ev (x:=x) (by simp[Op.operands,Call.operands])).trans hx) (Nat.ble_eq_true_of_le (sub_eq hr).1) (sub_eq hr).2) rfl k
theorem bw{T:Nat}{x:Operand}{t off:Nat}{cs:List M}{m:M}[ht:cj X.P T](hn:Nat.blt d X.n=true)(hx:ba sl x=some (.loc t off))(hb:get bx t=some cs)(hr:cs[off]?=some m)(k:TF X ops rest ⟨(d,(.m m))::sl,bx,H⟩ λes zz=>post (⟨some d,(.m m),[t],[],none,false,none⟩::es) zz):
  TF X ops (⟨some d,.load T x,ty,pos,af,none⟩::rest) ⟨sl,bx,H⟩ post:=
 TF.cons (e:=⟨some d,(.m m),[t],[],none,false,none⟩) (bK.quiet rfl rfl (aQ hn) λFE ag=>sj ((ag.ev (x:=x) (by simp[Op.operands,Call.operands])).trans hx) ((ag.bx t (by simp)).trans hb) hr) rfl k
theorem bo{T n:Nat}{x:Operand}{t off:Nat}{cs F8:List M}{ds:List D}[ht:cL X.P T n](hn:Nat.blt d X.n=true)(hx:ba sl x=some (.loc t off))(hb:get bx t=some cs)(hs:sub cs off n=some F8)(hr:cT F8=some ds)(k:TF X ops rest ⟨(d,(.m (.d (.agg ds))))::sl,bx,H⟩ λes zz=>post (⟨some d,(.m (.d (.agg ds))),[t],[],none,false,none⟩::es) zz):
  TF X ops (⟨some d,.load T x,ty,pos,af,none⟩::rest) ⟨sl,bx,H⟩ post:=
 TF.cons (e:=⟨some d,(.m (.d (.agg ds))),[t],[],none,false,none⟩) (bK.quiet rfl rfl (aQ hn) λFE ag=>sk ((ag.ev (x:=x) (by simp[Op.operands,Call.operands])).trans hx) ((ag.bx t (by simp)).trans hb) (Nat.ble_eq_true_of_le (sub_eq hs).1) (by rw[(sub_eq hs).2];exact hr)) rfl k
theorem dL{x:Operand}{v:V}(hn:Nat.blt d X.n=true)(hx:ba sl x=some v)(hv:nF v=true)(k:TF X ops rest ⟨(d,v)::sl,bx,H⟩ λes zz=>post (⟨some d,v,[],[],none,false,none⟩::es) zz):
  TF X ops (⟨some d,.nilCheck x,ty,pos,af,none⟩::rest) ⟨sl,bx,H⟩ post:=
 TF.cons (e:=⟨some d,v,[],[],none,false,none⟩) (bK.quiet rfl rfl (aQ hn) λFE ag=>kX ((ag.ev (x:=x) (by simp[Op.operands,Call.operands])).trans hx) hv) rfl k
theorem oL{t e:Nat}{x:Operand}{v:D}{n:Nat}[ht:aL X.P t e](hn:Nat.blt d X.n=true)(hx:ba sl x=some (.m (.d v)))(hl:nG v=some n)(k:TF X ops rest ⟨(d,(.m (.d (.int .i64 n))))::sl,bx,H⟩ λes zz=>post (⟨some d,(.m (.d (.int .i64 n))),[],[],none,false,none⟩::es) zz):
  TF X ops (⟨some d,.call ⟨.builtin .len,#[x],#[t]⟩,ty,pos,af,none⟩::rest) ⟨sl,bx,H⟩ post:=
 TF.cons (e:=⟨some d,(.m (.d (.int .i64 n))),[],[],none,false,none⟩) (bK.quiet rfl rfl (aQ hn) λFE ag=>sg ((ag.ev (x:=x) (by simp[Op.operands,Call.operands])).trans hx) hl) rfl k
theorem cM{t e n:Nat}{x y:Operand}{rows:List (List D)}{r:List D}{kk:IntKind}{i:Int}[ht:aL X.P t e][hs:bh X.P e n](hn:Nat.blt d X.n=true)(hx:ba sl x=some (.m (.d (.sl rows))))(hy:ba sl y=some (.m (.d (.int kk i))))(h0:0<=i)(hr:rows[i.toNat]?=some r)(hl:r.length=n)(k:TF X ops rest ⟨(d,(.m (.d (.bM r 0))))::sl,bx,H⟩ λes zz=>post (⟨some d,(.m (.d (.bM r 0))),[],[],none,false,none⟩::es) zz):
  TF X ops (⟨some d,.indexAddr t x y,ty,pos,af,none⟩::rest) ⟨sl,bx,H⟩ post:=
 TF.cons (e:=⟨some d,(.m (.d (.bM r 0))),[],[],none,false,none⟩) (bK.quiet rfl rfl (aQ hn) λFE ag=>nH ((ag.ev (x:=x) (by simp[Op.operands,Call.operands])).trans hx) ((ag.ev (x:=y) (by simp[Op.operands,Call.operands])).trans hy) h0 hr hl) rfl k
theorem ik{x:Operand}{i:Nat}{vs:List M}{m:M}(hn:Nat.blt d X.n=true)(hx:ba sl x=some (.m (.bz vs)))(hm:vs[i]?=some m)(k:TF X ops rest ⟨(d,(.m m))::sl,bx,H⟩ λes zz=>post (⟨some d,(.m m),[],[],none,false,none⟩::es) zz):
  TF X ops (⟨some d,.extract x i,ty,pos,af,none⟩::rest) ⟨sl,bx,H⟩ post:=
 TF.cons (e:=⟨some d,(.m m),[],[],none,false,none⟩) (bK.quiet rfl rfl (aQ hn) λFE ag=>lQ ((ag.ev (x:=x) (by simp[Op.operands,Call.operands])).trans hx) hm) rfl k
theorem Ag.dX{o:Oper}{e:Ef}{st FE:St}(h:Ag ops o e st FE):∀{xs:List Operand},(∀x∈xs,x∈o.op.operands.toList)->FE.dX xs=st.dX xs
 |[],_=>rfl
 |x::r,hx=>by
  simp only[St.dX];rw[h.ev (hx x (by simp)),h.dX (λy hy=>hx y (by simp[hy]))]
theorem Ag.cE{o:Oper}{e:Ef}{st FE:St}(h:Ag ops o e st FE):∀{xs:List Operand},(∀x∈xs,x∈o.op.operands.toList)->FE.cE xs=st.cE xs
 |[],_=>rfl
 |x::r,hx=>by
  simp only[St.cE];rw[h.ev (hx x (by simp)),h.cE (λy hy=>hx y (by simp[hy]))]
theorem Ag.bZ{o:Oper}{e:Ef}{st FE:St}(h:Ag ops o e st FE):∀{xs:List (Nat×Operand)},(∀p∈xs,p.2∈o.op.operands.toList)->Mt.bZ FE xs=Mt.bZ st xs
 |[],_=>rfl
 |(i,x)::r,hx=>by
  simp only[Mt.bZ];rw[h.ev (hx (i,x) (by simp)),h.bZ (λy hy=>hx y (by simp[hy]))]
theorem bX{f:Nat}{args:List Operand}{Gj:Array Nat}{ds:List D}{r:D}[hf:bp X.P f](h:PT X.P f ds (·=[r]))(hn:Nat.blt d X.n=true)(ha:dX sl args=some ds)(k:TF X ops rest ⟨(d,.m (.d r))::sl,bx,H⟩ λes zz=>post (⟨some d,.m (.d r),[],[],none,false,none⟩::es) zz):
  TF X ops (⟨some d,.call ⟨.value (.func f),args.toArray,Gj⟩,ty,pos,af,none⟩::rest) ⟨sl,bx,H⟩ post:=
 TF.cons (e:=⟨some d,.m (.d r),[],[],none,false,none⟩) (bK.quiet rfl rfl (aQ hn) λFE ag=>uw (by rw[ag.dX (λx hx=>by simp[Op.operands,Call.operands];exact .inr hx),kG];exact ha) h) rfl k
theorem dY{T:Nat}{parts:List (Nat×Operand)}{ps:List (Nat×Nat)}{z:List D}{zs:List M}{ms:List (Nat×M)}{cs:List M}{ds:List D}[ht:cp X.P T ps z](hn:Nat.blt d X.n=true)(he:eW sl parts=some ms)(hz:kE z=some zs)
  (hf:gU ps zs ms=some cs) (hd:cT cs=some ds) (k:TF X ops rest ⟨(d,.m (.d (.agg ds)))::sl,bx,H⟩ λes zz=>post (⟨some d,.m (.d (.agg ds)),[],[],none,false,none⟩::es) zz):TF X ops (⟨some d,.build T parts.toArray,ty,pos,af,none⟩::rest) ⟨sl,bx,H⟩ post:=by
 refine TF.cons (e:=⟨some d,.m (.d (.agg ds)),[],[],none,false,none⟩) (bK.quiet rfl rfl (aQ hn) λFE ag=>?_) rfl k;have h1:=kD (X:=X) (dst:=some d) (ty:=ty) (pos:=pos) (af:=af) (g:=none) (st:=FE) (T:=T) (parts:=parts) (ms:=ms) (by rw[ag.bZ (λp hp=>by simp[Op.operands];exact⟨_,hp⟩),eF];exact he) (by rw[<-kF hz];exact jp hf);have:pack cs=.d (.agg ds):=by simp[pack,hd]
 rw[this]at h1;exact h1
theorem bj{T e n len:Nat}{parts:List (Nat×Operand)}{z:D}{ms:List (Nat×M)}{rows:List (List D)}[ht:aL X.P T e][hs:bh X.P e n][hz:dt X.P e z](hn:Nat.blt d X.n=true)(h0:Nat.blt 0 n=true)(Ga:Nat.beq (aN z).length n=true)
  (hle:Nat.ble (len*n) 16777216=true) (he:eW sl parts=some ms) (hr:fc 0 ms=some rows) (hlen:Nat.beq rows.length len=true) (hl:fe n rows=true)
  (k:TF X ops rest ⟨(d,.m (.d (.sl rows)))::sl,bx,H⟩ λes zz=>post (⟨some d,.m (.d (.sl rows)),[],[],none,false,none⟩::es) zz):TF X ops (⟨some d,.buildSlice T len parts.toArray,ty,pos,af,none⟩::rest) ⟨sl,bx,H⟩ post:=by
 refine TF.cons (e:=⟨some d,.m (.d (.sl rows)),[],[],none,false,none⟩) (bK.quiet rfl rfl (aQ hn) λFE ag=>?_) rfl k;exact j_ h0 Ga hle (by rw[ag.bZ (λp hp=>by simp[Op.operands];exact⟨_,hp⟩),eF];exact he) hr hlen hl
theorem pI{sl:List (Nat×V)}{d:Nat}(h:∀t o,get sl t≠some (.loc d o)):∀t v,get sl t=some v->get (bu d sl) t=some v:=by
 have:∀(l:List (Nat×V)) (t:Nat) (v:V),get l t=some v->(∀o,v≠.loc d o)->get (bu d l) t=some v:=by
  intro l
  induction l with
  |nil=>intro t v h;simp[get]at h
  |cons x l ih=>
   intro t v hg hv;obtain⟨j,u⟩:=x;cases u with
   |m m=>
    unfold bu;rcases bf hg with⟨rfl,rfl⟩|⟨h1,h2⟩
    ·simp[aX]
    ·rw[aX,if_neg (λe=>h1 e.symm)];exact ih t v h2 hv
   |tl e1 e2 e3 e4=>
    unfold bu;rcases bf hg with⟨rfl,rfl⟩|⟨h1,h2⟩
    ·simp[aX]
    ·rw[aX,if_neg (λe=>h1 e.symm)];exact ih t v h2 hv
   |loc u o=>
    unfold bu;cases hb:Nat.beq u d with
    |false=>
     rcases bf hg with⟨rfl,rfl⟩|⟨h1,h2⟩
     ·simp[aX]
     ·simp only[cond_false];rw[aX,if_neg (λe=>h1 e.symm)];exact ih t v h2 hv
    |true=>
     have:=Nat.eq_of_beq_eq_true hb;subst this;rcases bf hg with⟨rfl,rfl⟩|⟨h1,h2⟩
     ·exact absurd rfl (hv o)
     ·simp only[cond_true];rw[aX,if_neg (λe=>h1 e.symm)];exact ih t v h2 hv
 intro t v hg;exact this sl t v hg (λo ho=>h t o (by rw[hg,ho]))
theorem gm{T:Nat}{cs:List M}[hz:ib X.P T cs](hn:Nat.blt d X.n=true)(k:TF X ops rest ⟨(d,.loc d 0)::sl,(d,cs)::bx,H⟩ λes zz=>post (⟨some d,.loc d 0,[],[(d,cs)],some d,false,none⟩::es) zz):
  TF X ops (⟨some d,.alloc T,ty,pos,af,none⟩::rest) ⟨sl,bx,H⟩ post:=by
 refine TF.cons (e:=⟨some d,.loc d 0,[],[(d,cs)],some d,false,none⟩) ?_ rfl k;intro FE ag;obtain⟨z,h1,h2⟩:=hz.h;subst h2;have h3:=(pE (X:=X) (st:=FE) (d:=d) (T:=T) (ty:=ty) (pos:=pos) (af:=af) (g:=none)).An (ops:=ops) rfl rfl (aQ hn);intro a w hi K Q hK;refine h3 a w hi K Q λa' w' FL=>hK a' w' ?_
 have FX:=pI (ag.nw d rfl);refine FL.fJ (λt v hv=>?_) (λ_=>rfl);rcases bf hv with⟨rfl,rfl⟩|⟨h5,h6⟩
 ·simp[aX]
 ·rw[aX,if_neg (λe=>h5 e.symm)];exact FX t v h6
theorem cc{T n:Nat}{x y:Operand}{t off:Nat}{cs new F8:List M}{m:M}[hs:bh X.P T n](hx:ba sl x=some (.loc t off))(hy:ba sl y=some (.m m))(hb:get bx t=some cs)(hc:dJ m=some new)
  (hl:Nat.beq new.length n=true) (hw:wr cs off new=some F8) (k:TF X ops rest ⟨sl,(t,F8)::bx,H⟩ λes zz=>post (⟨none,.m .undef,[],[(t,F8)],none,false,none⟩::es) zz):TF X ops (⟨none,.store T x y,ty,pos,af,none⟩::rest) ⟨sl,bx,H⟩ post:=by
 obtain⟨h1,h2⟩:=bQ hc;subst h1;exact TF.cons (e:=⟨none,.m .undef,[],[(t,F8)],none,false,none⟩) (bK.writes rfl rfl λFE ag=>nL ((ag.ev (x:=x) (by simp[Op.operands])).trans hx) ((ag.ev (x:=y) (by simp[Op.operands])).trans hy) ((ag.bx t (by simp)).trans hb) (Nat.eq_of_beq_eq_true hl) h2 (kr hw)) rfl k
end rules
theorem bb.heap{X:bq}{σ τ:Sg}{FC:Nat->Nat}{st:St}{a:Act}(hi:bb X σ FC st a)(hm:bO σ τ)(hh:cY τ (iT X.fa FC st.bx))
  (hb:∀t cs,get st.bx t=some cs->τ.w.heap[FC t]?=σ.w.heap[FC t]?) (hk:bJ σ τ):bb X τ FC ⟨st.sl,st.bx,τ.H⟩ a:=
 ⟨rfl,hi.defers,hi.size,λt v h3=>let⟨u,h4,h5⟩:=hi.slot t v h3;⟨u,h4,h5.mono hm⟩,λt cs h=>(hi.box t cs h).dR hm (λx hx=>by rw[hb t cs h];exact hx),hi.jC,hi.j5,hi.j6,hh,hi.mono.trans hm,hi.be.trans hk⟩
theorem bb.D1{X:bq}{σ:Sg}{FC:Nat->Nat}{st:St}{a:Act}(hi:bb X σ FC st a){t:Nat}{cs:List M}(h:get st.bx t=some cs){i:Nat}{ob:Ob}(h1:σ.H[i]?=some ob)(h2:ob.live):FC t≠σ.l i:=
 λe=>gT hi.hinv (b:=FC t) (.inr ⟨t,cs,h,rfl⟩) i ob h1 h2 e.symm
theorem bb.newObj{X:bq}{σ:Sg}{FC:Nat->Nat}{st:St}{a:Act}(hi:bb X σ FC st a)(ob:Ob)(x:Obj)
  (Gl:∀τ:Sg,bO σ τ->τ.w={σ.w with heap:=σ.w.heap.push x} ->eE τ σ.w.heap.size ob):
  ∃τ:Sg,τ.w={σ.w with heap:=σ.w.heap.push x} /\τ.l σ.H.length=σ.w.heap.size/\τ.H=st.H++[ob]/\bO σ τ/\bb X τ FC ⟨st.sl,st.bx,st.H++[ob]⟩ a:=by
 let b:=σ.w.heap.size
 let w':World:={σ.w with heap:=σ.w.heap.push x}
 let l':Nat->Nat:= λi=>if i=σ.H.length then b else σ.l i
 let τ:Sg:=⟨w',λc o=>σ.O c o\/(c=b/\ob.e_ o),l',σ.H++[ob]⟩
 have GA:dq σ.w w':=dq.alloc _ _;have GS:∀(i:Nat) o,σ.H[i]?=some o->(σ.H++[ob])[i]?=some o/\l' i=σ.l i:=by
  intro i o h;have FJ:i<σ.H.length:=by rcases Nat.lt_or_ge i σ.H.length with h'|h';exact h';simp[List.getElem?_eq_none h']at h
  exact⟨by rw[List.getElem?_append_left FJ];exact h,by simp[l',show i≠σ.H.length by omega]⟩
 have Hw:∀(i:Nat) o,(σ.H++[ob])[i]?=some o->(σ.H[i]?=some o/\l' i=σ.l i)\/(i=σ.H.length/\o=ob):=by
  intro i o h;rcases Nat.lt_or_ge i σ.H.length with h'|h'
  ·rw[List.getElem?_append_left h']at h;exact .inl ⟨h,(GS i o h).2⟩
  ·rw[List.getElem?_append_right h']at h;have:i-σ.H.length=0:=by
    rcases Nat.eq_zero_or_pos (i-σ.H.length)with h0|h0
    ·exact h0
    ·rw[List.getElem?_eq_none (by simp;omega)]at h;cases h
   rw[this]at h;simp at h;exact .inr ⟨by omega,h.symm⟩
 have FY:bO σ τ:=by
  refine⟨λc o v h1 h2=>⟨GA.cell h1,?_⟩,λi cs h=>⟨⟨cs,(GS i _ h).1⟩,(GS i _ h).2⟩,λi cs h=>⟨⟨cs,(GS i _ h).1⟩,(GS i _ h).2⟩,λi cs h=>⟨⟨cs,(GS i _ h).1⟩,(GS i _ h).2⟩,λi h=>(GS i _ h).1,
   λi acc ec FD cs h=>.inr ⟨acc,FD,cs,(GS i _ h).1,Nat.le_refl _,λ_=>⟨(GS i _ h).2,rfl,λarr T ha=>⟨arr,GA.heap ha,rfl⟩⟩⟩,λi h=>⟨_,(GS i _ h).1⟩⟩
  rintro(h3|⟨h3,_⟩)
  ·exact h2 h3
  ·have:=gS h1;omega
 have FJ:∀(i:Nat) o,σ.H[i]?=some o->o.live->σ.l i<b:= λi o h1 h2=>(hi.hinv.obj i o h1).lt h2
 have Iz:eE τ b ob:=Gl τ FY rfl;have Ib:l' σ.H.length=b:=by simp[l']
 have hinv:cY τ (iT X.fa FC st.bx):=by
  refine⟨?_,?_,?_,?_,λc o h=>Nat.lt_of_lt_of_le (hi.hinv.fj c o h) GA.size⟩
  ·intro i o h;rcases Hw i o h with⟨h1,h2⟩|⟨rfl,rfl⟩
   ·show eE τ (l' i) o;rw[h2];exact(hi.hinv.obj i o h1).dR FY λx hx=>GA.heap hx
   ·show eE τ (l' _) o;rw[Ib];exact Iz
  ·intro i j x y h1 h2 h3 h4 h5;change l' i=l' j at h5;rcases Hw i x h1 with⟨h6,h7⟩|⟨rfl,rfl⟩<;>rcases Hw j y h2 with⟨h8,h9⟩|⟨rfl,rfl⟩
   ·rw[h7,h9]at h5;exact hi.hinv.inj i j x y h6 h8 h3 h4 h5
   ·rw[h7,Ib]at h5;have:=FJ i x h6 h3;omega
   ·rw[h9,Ib]at h5;have:=FJ j y h8 h4;omega
   ·rfl
  ·intro c o;show(σ.O c o\/(c=b/\ob.e_ o))↔_;rw[hi.hinv.own];constructor
   ·rintro((h|⟨i,x,h1,h2,h3⟩)|⟨rfl,h2⟩)
    ·exact .inl h
    ·exact .inr ⟨i,x,(GS i x h1).1,(by show l' i=c;rw[(GS i x h1).2];exact h2),h3⟩
    ·exact .inr ⟨σ.H.length,ob,by simp[τ],Ib,h2⟩
   ·rintro(h|⟨i,x,h1,h2,h3⟩)
    ·exact .inl (.inl h)
    ·rcases Hw i x h1 with⟨h6,h7⟩|⟨rfl,rfl⟩
     ·exact .inl (.inr ⟨i,x,h6,by rw[<-h7];exact h2,h3⟩)
     ·exact .inr ⟨by rw[<-h2];exact Ib,h3⟩
  ·intro i o h1 h2 oo h3;rcases Hw i o h1 with⟨h6,h7⟩|⟨rfl,rfl⟩
   ·exact hi.hinv.sep i o h6 h2 oo (by rw[<-h7];exact h3)
   ·have h4:iT X.fa FC st.bx b oo:=by rw[<-Ib];exact h3
    have:=hi.hinv.fj _ _ h4;exact Nat.lt_irrefl _ this
 have Hf:bJ σ τ:=by
  refine⟨rfl,rfl,rfl,GA.size,λc hc _=>GA.be c hc,?_⟩;intro i o h1 h2;rcases Hw i o h1 with⟨h6,h7⟩|⟨rfl,rfl⟩
  ·exact .inr ⟨o,h6,h2,h7⟩
  ·exact .inl (by show _<=l' _;rw[Ib];exact Nat.le_refl _)
 have hH:τ.H=st.H++[ob]:=by show σ.H++[ob]=_;rw[hi.hH]
 refine⟨τ,rfl,Ib,hH,FY,?_⟩;have:=hi.heap FY hinv (λt cs h=>GA.be _ ((hi.box t cs h).lt trivial)) Hf;rw[hH]at this;exact this
def turns(same sz:Prop):Ob->Ob->Prop
 |.box _,.box _=>same
 |.map _,.map _=>same
 |.iter _,.iter _=>same
 |.row _ _ _ _,.dead=>True
 |.row _ ec FD cs,.row _ J0 F5 FG=>J0=ec/\(FD<F5\/(F5=FD/\FG.length=cs.length/\same/\sz))
 |_,_=>False
theorem bb.eU{X:bq}{σ:Sg}{FC:Nat->Nat}{st:St}{a:Act}(hi:bb X σ FC st a){j b':Nat}{ob F_:Ob}{w':World}(hj:st.H[j]?=some ob)(hl:ob.live)
  (Ru:w'.os=σ.w.os) (PD:w'.output=σ.w.output) (OB:w'.tape=σ.w.tape) (My:σ.w.heap.size<=w'.heap.size)
  (Hf:∀c,c<σ.w.heap.size->c≠σ.l j->w'.heap[c]?=σ.w.heap[c]?) (Hb:b'=σ.l j\/σ.w.heap.size<=b')
  (FW:∀o v,¬ob.e_ o->cB σ.w (σ.l j) o=some v->cB w' (σ.l j) o=some v/\(b'=σ.l j->¬F_.e_ o))
  (IH:turns (b'=σ.l j) (∀arr T,σ.w.heap[σ.l j]?=some (.cells arr T (0,0))->∃Gg,w'.heap[σ.l j]?=some (.cells Gg T (0,0))/\Gg.size=arr.size) ob F_)
  (Gl:∀τ:Sg,bO σ τ->τ.w=w'->τ.l j=b'->τ.H=st.H.set j F_->eE τ b' F_):
  ∃τ:Sg,τ.w=w'/\τ.l j=b'/\τ.H=st.H.set j F_/\bO σ τ/\bb X τ FC ⟨st.sl,st.bx,st.H.set j F_⟩ a:=by
 have L3:=hi.hH;have Hs:σ.H[j]?=some ob:=by rw[L3];exact hj
 have I7:j<σ.H.length:=by rcases Nat.lt_or_ge j σ.H.length with h|h;exact h;simp[List.getElem?_eq_none h]at Hs
 let l':Nat->Nat:= λi=>if i=j then b' else σ.l i
 let H':=σ.H.set j F_
 let Oo:=iT X.fa FC st.bx
 let τ:Sg:=⟨w',λc o=>Oo c o\/∃(i:Nat) (x:Ob),H'[i]?=some x/\l' i=c/\x.e_ o,l',H'⟩
 have FV:∀(i:Nat) x,i≠j->σ.H[i]?=some x->H'[i]?=some x/\l' i=σ.l i:=by
  intro i x Lx h;exact⟨by show(σ.H.set j F_)[i]?=_;rw[List.getElem?_set_ne (Ne.symm Lx)];exact h,by simp[l',Lx]⟩
 have Gv:H'[j]?=some F_/\l' j=b':=⟨by show(σ.H.set j F_)[j]?=_;simp[I7],by simp[l']⟩;have GU:∀(i:Nat) x,H'[i]?=some x->(i≠j/\σ.H[i]?=some x/\l' i=σ.l i)\/(i=j/\x=F_):=by
  intro i x h;by_cases e:i=j
  ·subst e;rw[Gv.1]at h;injection h with h;exact .inr ⟨rfl,h.symm⟩
  ·have:σ.H[i]?=some x:=by
    have h2:(σ.H.set j F_)[i]?=some x:=h;rw[List.getElem?_set_ne (Ne.symm e)]at h2;exact h2
   exact .inl ⟨e,this,(FV i x e this).2⟩
 have FJ:∀(i:Nat) o,σ.H[i]?=some o->o.live->σ.l i<σ.w.heap.size:= λi o h1 h2=>(hi.hinv.obj i o h1).lt h2
 have Rv:=FJ j ob Hs hl;have KI:∀(i:Nat) x,i≠j->σ.H[i]?=some x->x.live->σ.l i≠σ.l j:= λi x e h1 h2 h3=>e (hi.hinv.inj i j x ob h1 Hs h2 hl h3)
 have FY:bO σ τ:=by
  refine⟨?_,?_,?_,?_,?_,?_,?_⟩
  ·intro c o v h1 h2;have hc:=gS h1;have N0:(c≠σ.l j\/(b'=σ.l j->¬F_.e_ o))->¬(Oo c o\/∃(i:Nat) (x:Ob),H'[i]?=some x/\l' i=c/\x.e_ o):=by
    rintro Mz (h3|⟨i,x,h3,h4,h5⟩)
    ·exact h2 ((hi.hinv.own c o).2 (.inl h3))
    ·rcases GU i x h3 with⟨e,h6,h7⟩|⟨rfl,rfl⟩
     ·exact h2 ((hi.hinv.own c o).2 (.inr ⟨i,x,h6,by rw[<-h7];exact h4,h5⟩))
     ·rw[Gv.2]at h4;rcases Hb with Hb|Hb
      ·rcases Mz with Mz|Mz
       ·exact Mz (by rw[<-h4];exact Hb)
       ·exact Mz Hb h5
      ·omega
   by_cases e:c=σ.l j
   ·subst e;have HL:¬ob.e_ o:= λh=>h2 ((hi.hinv.own _ o).2 (.inr ⟨j,ob,Hs,rfl,h⟩))
    obtain⟨h3,h4⟩:=FW o v HL h1;exact⟨h3,N0 (.inr h4)⟩
   ·exact⟨by rw[iL (Hf c hc e)];exact h1,N0 (.inl e)⟩
  ·intro i cs h;by_cases e:i=j
   ·subst e;rw[Hs]at h;injection h with h;subst h
    cases F_ with
    |box FG=>exact⟨⟨FG,Gv.1⟩,by show l' i=_;rw[Gv.2];exact IH⟩
    |_=>exact IH.elim
   ·exact⟨⟨cs,(FV i _ e h).1⟩,(FV i _ e h).2⟩
  ·intro i cs h;by_cases e:i=j
   ·subst e;rw[Hs]at h;injection h with h;subst h
    cases F_ with
    |map FG=>exact⟨⟨FG,Gv.1⟩,by show l' i=_;rw[Gv.2];exact IH⟩
    |_=>exact IH.elim
   ·exact⟨⟨cs,(FV i _ e h).1⟩,(FV i _ e h).2⟩
  ·intro i cs h;by_cases e:i=j
   ·subst e;rw[Hs]at h;injection h with h;subst h
    cases F_ with
    |iter FG=>exact⟨⟨FG,Gv.1⟩,by show l' i=_;rw[Gv.2];exact IH⟩
    |_=>exact IH.elim
   ·exact⟨⟨cs,(FV i _ e h).1⟩,(FV i _ e h).2⟩
  ·intro i h;by_cases e:i=j
   ·subst e;rw[Hs]at h;injection h with h;subst h;exact hl.elim
   ·exact(FV i _ e h).1
  ·intro i acc ec FD cs h;by_cases e:i=j
   ·subst e;rw[Hs]at h;injection h with h;subst h
    cases F_ with
    |dead=>exact .inl Gv.1
    |row GP J0 F5 FG=>
     obtain⟨e1,h2⟩:=IH;subst e1;refine .inr ⟨GP,F5,FG,Gv.1,?_,?_⟩
     ·rcases h2 with h2|⟨h2,_⟩<;>omega
     ·intro hv;rcases h2 with h2|⟨_,h3,h4,h5⟩
      ·omega
      ·exact⟨by show l' i=_;rw[Gv.2];exact h4,h3,h5⟩
    |_=>exact IH.elim
   ·refine .inr ⟨acc,FD,cs,(FV i _ e h).1,Nat.le_refl _,λ_=>⟨(FV i _ e h).2,rfl,λarr T ha=>⟨arr,?_,rfl⟩⟩⟩;show w'.heap[σ.l i]?=_;rw[Hf _ (FJ i _ h trivial) (KI i _ e h trivial)];exact ha
  ·intro i h;by_cases e:i=j
   ·subst e;exact⟨_,Gv.1⟩
   ·exact⟨_,(FV i _ e h).1⟩
 have LA:τ.H=st.H.set j F_:=by show σ.H.set j F_=_;rw[L3]
 have Iz:eE τ b' F_:=Gl τ FY rfl Gv.2 LA;have PE:∀o,¬Oo (σ.l j) o:= λo=>hi.hinv.sep j ob Hs hl o
 have hinv:cY τ Oo:=by
  refine⟨?_,?_,λc o=>Iff.rfl,?_,λc o h=>Nat.lt_of_lt_of_le (hi.hinv.fj c o h) My⟩
  ·intro i x h;rcases GU i x h with⟨e,h6,h7⟩|⟨rfl,rfl⟩
   ·show eE τ (l' i) x;rw[h7];by_cases hx:x.live
    ·refine(hi.hinv.obj i x h6).dR FY λy hy=>?_
     show w'.heap[_]?=_;rw[Hf _ (FJ i x h6 hx) (KI i x e h6 hx)];exact hy
    ·cases x<;>first|trivial|exact(hx trivial).elim
   ·show eE τ (l' i) x;rw[Gv.2];exact Iz
  ·intro i k x y h1 h2 h3 h4 h5;change l' i=l' k at h5;rcases GU i x h1 with⟨e,h6,h7⟩|⟨rfl,rfl⟩<;>rcases GU k y h2 with⟨e',h8,h9⟩|⟨rfl,rfl⟩
   ·rw[h7,h9]at h5;exact hi.hinv.inj i k x y h6 h8 h3 h4 h5
   ·rw[h7,Gv.2]at h5;rcases Hb with Hb|Hb
    ·exact absurd (h5.trans Hb) (KI i x e h6 h3)
    ·have:=FJ i x h6 h3;omega
   ·rw[h9,Gv.2]at h5;rcases Hb with Hb|Hb
    ·exact absurd (h5.symm.trans Hb) (KI k y e' h8 h4)
    ·have:=FJ k y h8 h4;omega
   ·rfl
  ·intro i x h1 h2 o h3;rcases GU i x h1 with⟨e,h6,h7⟩|⟨rfl,rfl⟩
   ·exact hi.hinv.sep i x h6 h2 o (by rw[<-h7];exact h3)
   ·have h4:Oo b' o:=by rw[<-Gv.2];exact h3
    rcases Hb with Hb|Hb
    ·exact PE o (by rw[<-Hb];exact h4)
    ·have:=hi.hinv.fj _ _ h4;omega
 have Rw:bJ σ τ:=by
  refine⟨Ru,PD,OB,My,λc hc hn=>Hf c hc (λe=>hn j ob Hs hl e.symm),?_⟩;intro i x h1 h2;rcases GU i x h1 with⟨e,h6,h7⟩|⟨rfl,rfl⟩
  ·exact .inr ⟨x,h6,h2,h7⟩
  ·rcases Hb with Hb|Hb
   ·exact .inr ⟨ob,Hs,hl,by show l' i=_;rw[Gv.2];exact Hb⟩
   ·exact .inl (by show _<=l' i;rw[Gv.2];exact Hb)
 refine⟨τ,rfl,Gv.2,LA,FY,?_⟩;have:=hi.heap FY hinv (λt cs h=>Hf _ ((hi.box t cs h).lt trivial) (hi.D1 h Hs hl)) Rw;rw[LA]at this;exact this
end Go.Mt
