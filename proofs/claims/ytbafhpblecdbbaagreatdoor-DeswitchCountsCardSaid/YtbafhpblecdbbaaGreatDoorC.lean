/- A part of the proof of the last text of this claim, without conditions. -/
import Derived.Test.YtbafhpblecdbbaaGreatDoorB
set_option maxRecDepth 4000
set_option linter.all false
namespace Go.Mt
section ops
variable{X:bq}{st:St}{dst:Option Nat}{ty:Nat}{pos:String}{af:Array Edge}{g:Option (Nat×Bool)}
theorem Bx{T:Nat}{x:Operand}{m:M}(hx:st.ev x=some (.m m))(Gl:m.lP=true):
  aK X ⟨dst,.box T x,ty,pos,af,g⟩ st (bt (.m (.ref st.H.length 0)) ⟨st.sl,st.bx,st.H++[.box (cellsOf m)]⟩):=by
 intro a σ FC hi;have h:=hi.ev hx;cases h with
 |m h=>
  have hc:=h.cells Gl;obtain⟨τ,h1,h2,h3,h4,h5⟩:=hi.newObj (.box (cellsOf m)) (.cells (a.eval x).cells T (0,0)) (by
   intro τ hm hw;exact⟨_,T,by rw[hw];simp,hc.mono hm⟩)
  refine bS.value (u:=.pointer (some ⟨σ.w.heap.size,0,none⟩)) (w':={σ.w with heap:=σ.w.heap.push (.cells (a.eval x).cells T (0,0))}) ?_ ⟨_,_,τ,FC,⟨rfl,rfl⟩,h1,h5,?_⟩
  ·simp[execOp,Instr.box,newVar,newRow,newObj,Sem.run]
  ·rw[<-h2,hi.hH];exact .m (.ref _ 0 (cellsOf m) (by rw[h3];simp))
theorem x7{T:Nat}{z:D}[hz:mH X.P T z]:
  aK X ⟨dst,.alloc T,ty,pos,af,g⟩ st (bt (.m (.ref st.H.length 0)) ⟨st.sl,st.bx,st.H++[.box ((aN z).map .d)]⟩):=by
 intro a σ FC hi;obtain⟨v,GK,GO⟩:=hz.run;have hr:RM σ (.d z) v:=.d (bW GO);have hc:eN σ ((aN z).map .d) v.cells:=hr.cells rfl;obtain⟨τ,h1,h2,h3,h4,h5⟩:=hi.newObj (.box ((aN z).map .d)) (.cells v.cells T (0,0)) (by
  intro τ hm hw;exact⟨_,T,by rw[hw];simp,hc.mono hm⟩)
 refine bS.value (u:=.pointer (some ⟨σ.w.heap.size,0,none⟩)) (w':={σ.w with heap:=σ.w.heap.push (.cells v.cells T (0,0))}) ?_ ⟨_,_,τ,FC,⟨rfl,rfl⟩,h1,h5,?_⟩
 ·simp[execOp,Instr.alloc,GK,newVar,newRow,newObj,Sem.run]
 ·rw[<-h2,hi.hH];exact .m (.ref _ 0 ((aN z).map .d) (by rw[h3];simp))
theorem wE{T:Nat} :
  aK X ⟨dst,.makeMap T none,ty,pos,af,g⟩ st (bt (.m (.mp st.H.length)) ⟨st.sl,st.bx,st.H++[.map []]⟩):=by
 intro a σ FC hi;obtain⟨τ,h1,h2,h3,h4,h5⟩:=hi.newObj (.map []) (.map #[] 0) (by
  intro τ hm hw;exact⟨[],.inl rfl,#[],0,by rw[hw];simp,rfl,by simp,by simp[fQ]⟩)
 refine bS.value (u:=.map (some σ.w.heap.size)) (w':={σ.w with heap:=σ.w.heap.push (.map #[] 0)}) ?_ ⟨_,_,τ,FC,⟨rfl,rfl⟩,h1,h5,?_⟩
 ·simp[execOp,Instr.makeMap,newObj,Sem.run]
 ·rw[<-h2,hi.hH];exact .m (.mp _ [] (by rw[h3];simp))
theorem mJ{T:Nat}{x:Operand}{i off:Nat}{cs:List M}{m:M}(hx:st.ev x=some (.m (.ref i off)))(hH:st.H[i]?=some (.box cs))(hr:ch X.P T cs off=some m):
  aK X ⟨dst,.load T x,ty,pos,af,g⟩ st (bt (.m m) st):=by
 refine aK.quiet λa σ FC hi=>?_
 have h:=hi.ev hx;generalize hu:a.eval x=u at h;cases h with
 |m h=>cases h with
  |ref i off FG hh=>
   obtain⟨arr,TT,h3,h4⟩:=hi.hinv.obj i (.box cs) (by rw[hi.hH];exact hH);obtain⟨v,h5,h6⟩:=ig hr h3 (by rw[h4.1];exact Nat.le_refl _) h4.2;exact⟨v,by simp[execOp,hu,Instr.loadAt,Instr.sureAddr,h5],.m h6⟩
theorem pJ{T:Nat}{x:Operand}{i FD off:Nat}{acc:Bool}{ec:Nat}{cs:List M}{m:M}(hx:st.ev x=some (.m (.bG i FD off)))(hH:st.H[i]?=some (.row acc ec FD cs))(hr:ch X.P T cs off=some m):
  aK X ⟨dst,.load T x,ty,pos,af,g⟩ st (bt (.m m) st):=by
 refine aK.quiet λa σ FC hi=>?_
 have h:=hi.ev hx;generalize hu:a.eval x=u at h;cases h with
 |m h=>cases h with
  |bG i FD off b hle Gp=>
   have G3:σ.H[i]?=some (.row acc ec FD cs):=by rw[hi.hH];exact hH
   have hb:=Gp acc ec cs G3;subst hb;obtain⟨_,arr,TT,cap,n,h3,h4,h5,⟨h6,_⟩,h7⟩:=hi.hinv.obj i _ G3;obtain⟨v,h8,h9⟩:=ig hr h3 (by rw[h4,h6];exact Nat.mul_le_mul_right _ h5) h7;exact⟨v,by simp[execOp,hu,Instr.loadAt,Instr.sureAddr,h8],.m h9⟩
theorem nQ{T n:Nat}{x y:Operand}{i off:Nat}{cs FG:List M}{m:M}[hs:bh X.P T n](hx:st.ev x=some (.m (.ref i off)))(hy:st.ev y=some (.m m))(hH:st.H[i]?=some (.box cs))
  (hn:(cellsOf m).length=n) (Gl:m.lP=true) (hw:cm cs off (cellsOf m)=some FG):
  aK X ⟨dst,.store T x y,ty,pos,af,g⟩ st (bt (.m .undef) ⟨st.sl,st.bx,st.H.set i (.box FG)⟩):=by
 intro a σ FC hi;have h:=hi.ev hx;have h2:=hi.ev hy;generalize hu:a.eval x=u at h;cases h with
 |m h=>cases h with
  |ref i off KX hh=>
   cases h2 with
   |m h2=>
    have G3:σ.H[i]?=some (.box cs):=by rw[hi.hH];exact hH
    obtain⟨arr,TT,h3,h4⟩:=hi.hinv.obj i _ G3;have hc:=h2.cells Gl;obtain⟨h5,h6,h7⟩:=h4.write hc hw;have Gd:(a.eval y).cells.size=n:=by rw[hc.1,hn]
    have GJ:=kq (P:=X.P) (t:=T) (off:=off) h3 (by rw[hs.size,Gd]) (by rw[h4.1,hc.1];exact h6) hc.flat;have FJ:=cZ h3;obtain⟨τ,g1,g2,g3,g4,g5⟩:=hi.eU (j:=i) (b':=σ.l i) (ob:=.box cs) (F_:=.box FG) (w':=bI σ.w (σ.l i) (.cells (cS arr off (a.eval y).cells.toList) TT (0,0))) hH trivial rfl rfl rfl (by rw[eb];exact Nat.le_refl _)
     (λc _ hc=>dU hc) (.inl rfl) (λo v ho=>(ho trivial).elim) rfl (by
      intro τ hm hw _ _;exact⟨_,TT,by rw[hw];exact c7 FJ,h5.mono hm⟩)
    refine bS.skip (by simp only[execOp,hu,Instr.storeAt,Instr.sureAddr];simp[GJ];rfl) ?_;exact⟨.m .undef,_,τ,FC,⟨rfl,rfl⟩,g1,g5,.m (.undef _)⟩
theorem x8{σ:Sg}{cs new FG:List M}{arr:Array Value}{vs:Array Value}{off:Nat}(hle:cs.length<=arr.size)(h:∀(i:Nat) (m:M) (v:Value),cs[i]?=some m->arr[i]?=some v->RM σ m v/\flat v=true)
  (hn:eN σ new vs) (hw:cm cs off new=some FG):
  (∀(i:Nat) (m:M) (v:Value),FG[i]?=some m->(cS arr off vs.toList)[i]?=some v->RM σ m v/\flat v=true)/\off+new.length<=cs.length/\FG.length=cs.length:=by
 have MA:eN σ cs (arr.extract 0 cs.length):=by
  refine⟨by simp;omega,λi m v hm hv=>?_⟩;rw[Array.getElem?_extract]at hv;split at hv
  ·simp at hv;exact h i m v hm hv
  ·cases hv
 obtain⟨h1,h2,h3⟩:=MA.write hn hw;refine⟨λi m v hm hv=>?_,h2,h3⟩;have hi:i<cs.length:=by rw[<-h3];rcases Nat.lt_or_ge i FG.length with h|h;exact h;simp[List.getElem?_eq_none h]at hm
 refine h1.2 i m v hm ?_;have IF:=hn.1;rw[iM _ _ _ _ (by simp;omega)]at hv⊢;split
 ·rename_i hc;rw[if_pos hc]at hv;exact hv
 ·rename_i hc;rw[if_neg hc]at hv;rw[Array.getElem?_extract,if_pos (by omega)];simpa using hv
theorem jH{T n:Nat}{x y:Operand}{i FD off ec:Nat}{cs FG:List M}{m:M}[hs:bh X.P T n](hx:st.ev x=some (.m (.bG i FD off)))(hy:st.ev y=some (.m m))(hH:st.H[i]?=some (.row false ec FD cs))
  (hn:(cellsOf m).length=n) (Gl:m.lP=true) (hw:cm cs off (cellsOf m)=some FG):
  aK X ⟨dst,.store T x y,ty,pos,af,g⟩ st (bt (.m .undef) ⟨st.sl,st.bx,st.H.set i (.row false ec FD FG)⟩):=by
 intro a σ FC hi;have h:=hi.ev hx;have h2:=hi.ev hy;generalize hu:a.eval x=u at h;cases h with
 |m h=>cases h with
  |bG i FD off b hle Gp=>
   cases h2 with
   |m h2=>
    have G3:σ.H[i]?=some (.row false ec FD cs):=by rw[hi.hH];exact hH
    have hb:=Gp false ec cs G3;subst hb;obtain⟨GB,arr,TT,cap,nn,h3,h4,h5,⟨h6,FZ⟩,h7⟩:=hi.hinv.obj i _ G3;have hc:=h2.cells Gl;have PF:cs.length<=arr.size:=by rw[h4,h6];exact Nat.mul_le_mul_right _ h5
    obtain⟨k1,k2,k3⟩:=x8 PF h7 hc hw;have Gd:(a.eval y).cells.size=n:=by rw[hc.1,hn]
    have GJ:=kq (P:=X.P) (t:=T) (off:=off) h3 (by rw[hs.size,Gd]) (by rw[hc.1];omega) hc.flat;have FJ:=cZ h3;obtain⟨τ,g1,g2,g3,g4,g5⟩:=hi.eU (j:=i) (b':=σ.l i) (ob:=.row false ec FD cs) (F_:=.row false ec FD FG) (w':=bI σ.w (σ.l i) (.cells (cS arr off (a.eval y).cells.toList) TT (0,0))) hH trivial rfl rfl rfl (by rw[eb];exact Nat.le_refl _)
     (λc _ hc=>dU hc) (.inl rfl) (λo v ho=>(ho (.inl rfl)).elim) ⟨rfl,.inr ⟨rfl,k3,rfl,λar T' ha=>by
      rw[h3]at ha;injection ha with ha;injection ha with e1 e2;subst e1;subst e2
      exact⟨_,c7 FJ,dK _ _ _⟩⟩⟩ (by
      intro τ hm hw _ _;exact⟨GB,_,TT,cap,nn,by rw[hw];exact c7 FJ,by rw[dK];exact h4,h5,⟨by rw[k3];exact h6,FZ⟩,λi m v a b=>⟨(k1 i m v a b).1.mono hm,(k1 i m v a b).2⟩⟩)
    refine bS.skip (by simp only[execOp,hu,Instr.storeAt,Instr.sureAddr];simp[GJ];rfl) ?_;exact⟨.m .undef,_,τ,FC,⟨rfl,rfl⟩,g1,g5,.m (.undef _)⟩
theorem jI{t e ec:Nat}{x y:Operand}{j FD len:Nat}{acc:Bool}{cs:List M}{k:IntKind}{i:Int}[ht:aL X.P t e][hs:bh X.P e ec](hx:st.ev x=some (.m (.bB j FD len)))(hy:st.ev y=some (.m (.d (.int k i))))
  (hH:st.H[j]?=some (.row acc ec FD cs)) (h0:0<=i) (FJ:i<len):
  aK X ⟨dst,.indexAddr t x y,ty,pos,af,g⟩ st (bt (.m (.bG j FD (i.toNat*ec))) st):=by
 refine aK.quiet λa σ FC hi=>?_
 have h:=hi.ev hx;have h2:=hi.cC hy;generalize hu:a.eval x=u at h;cases h with
 |m h=>cases h with
  |bB j FD len ad cap hle Gp=>
   have G3:σ.H[j]?=some (.row acc ec FD cs):=by rw[hi.hH];exact hH
   obtain⟨e1,e2,arr,TT,e3,e4⟩:=Gp acc ec cs G3;subst e1;refine⟨.pointer (some ⟨σ.l j,i.toNat*ec,none⟩),?_,.m (.bG j FD _ _ hle λ_ _ _ _=>rfl)⟩;simp[execOp,hu,h2,Instr.indexAt,asIntOf,underlying,program,Sem.run,ht.u,bF hs.size,h0,FJ,fR]
theorem wF{t e:Nat}{x:Operand}{j FD len:Nat}[ht:aL X.P t e](hx:st.ev x=some (.m (.bB j FD len))):
  aK X ⟨dst,.call ⟨.builtin .len,#[x],#[t]⟩,ty,pos,af,g⟩ st (bt (.m (.d (.int .i64 len))) st):=by
 refine aK.quiet λa σ FC hi=>?_
 have h:=hi.ev hx;generalize hu:a.eval x=u at h;refine⟨.int .i64 len,?_,.m (.d (.int _ _))⟩;cases h with
 |m h=>cases h with
  |bB j FD len ad cap hle Gp=>
   simp[execOp,resolve,invoke,builtin,Builtin.len_,underlying,program,Sem.run,ht.u,hu,goInt]
end ops
theorem sq(Jl:Nat)(h:256<=Jl):∀r c,256<=c->c<=2*Jl->Builtin.growBy Jl r c<=2*Jl
 |0,c,_,h2=>h2
 |r+1,c,h1,h2=>by
  unfold Builtin.growBy;split
  ·exact h2
  ·exact sq Jl h r _ (by omega) (by omega)
theorem ke{ef cap:Nat}(h:cap<ef):Builtin.nextslicecap ef cap<=2*ef:=by
 unfold Builtin.nextslicecap;split
 ·omega
 ·split
  ·omega
  ·exact sq ef (by omega) 4 cap (by omega) (by omega)
theorem dx(h:Array Obj)(x:Obj):(h.push x)[h.size]?=some x:=by simp
theorem lT{α:Type}{l:List α}{j:Nat}{x y:α}(h:l[j]?=some x):(l.set j y)[j]?=some y:=by
 have:j<l.length:=by rcases Nat.lt_or_ge j l.length with h'|h';exact h';simp[List.getElem?_eq_none h']at h
 simp[this]
theorem fl(z:Array Value)(n:Nat):(Builtin.zeroCells z n).size=n*z.size:=by simp[Builtin.zeroCells]
theorem dI.firstCells{P:Program}{O:Nat->Nat->Prop}{w:World}{rows:List (List D)}{v:Value}{n:Nat}(hn:0<n)(h:dI O w (.sl rows) v)(hl:∀r∈rows,r.length=n):
  ∃vs:Array Value,(∀w':World,(Builtin.lenOf v).run P w'=.ok rows.length w')/\(∀w':World,w'.heap=w.heap->(Builtin.firstCells n rows.length v).run P w'=.ok vs w')/\vs.size=rows.length*n/\
   ∀(i j:Nat) r d,rows[i]?=some r->r[j]?=some d->∃u,vs[i*n+j]?=some u/\dI O w d u/\flat u=true:=by
 cases h with
 |slnil a=>
  cases a with
  |none=>exact⟨#[],λ_=>by simp[Builtin.lenOf],λ_ _=>by simp[Builtin.firstCells],by simp,by simp⟩
  |some a=>exact⟨#[],λ_=>by simp[Builtin.lenOf],λ_ _=>by simp[Builtin.firstCells,loadCells,loadCellsFrom],by simp,by simp⟩
 |sl rows b o cap ec val h0 Gw FZ GB FW Gf Gx=>
  have Mn:ec=n:=by
   cases rows with
   |nil=>exact absurd rfl h0
   |cons r rs=>rw[<-GB r (by simp)];exact hl r (by simp)
  subst Mn
  let vs:Array Value:=((List.range (rows.length*ec)).map λk=>val (k/ec) (k%ec)).toArray
  have Gd:vs.size=rows.length*ec:=by simp[vs]
  have Rx:∀k,k<rows.length*ec->k/ec<rows.length/\k%ec<ec/\k/ec*ec+k%ec=k:=by
   intro k hk;refine⟨(Nat.div_lt_iff_lt_mul hn).2 hk,Nat.mod_lt _ hn,?_⟩;have:=Nat.div_add_mod k ec;rw[Nat.mul_comm]at this;exact this
  refine⟨vs,λ_=>by simp[Builtin.lenOf],?_,Gd,?_⟩
  ·intro w' II;simp only[Builtin.firstCells,loadCells];refine fI _ 0 _ (by omega) (by simp) ?_;intro k hk;rw[Gd]at hk;obtain⟨h1,h2,h3⟩:=Rx k hk;have:vs.getD k undef=val (k/ec) (k%ec):=by simp[vs,hk]
   rw[this];have:=(FW _ _ h1 h2).1;rw[h3]at this;rw[iL (w:=w) (by rw[II])];exact this
  ·intro i j r d hr hd;have hi:i<rows.length:=by rcases Nat.lt_or_ge i rows.length with h|h;exact h;simp[List.getElem?_eq_none h]at hr
   have hj:j<ec:=by
    rw[<-GB r (List.mem_of_getElem? hr)];rcases Nat.lt_or_ge j r.length with h|h;exact h;simp[List.getElem?_eq_none h]at hd
   have hk:i*ec+j<rows.length*ec:=by
    calc i*ec+j<i*ec+ec:=by omega
     _=(i+1)*ec:=by rw[Nat.succ_mul]
     _<=rows.length*ec:=Nat.mul_le_mul_right _ hi
   refine⟨val i j,?_,Gx i j r d hr hd,Gf i j hi hj⟩;have e1:(i*ec+j)/ec=i:=by rw[Nat.mul_comm,Nat.mul_add_div hn,Nat.div_eq_of_lt hj];omega
   have e2:(i*ec+j)%ec=j:=by rw[Nat.mul_comm,Nat.mul_add_mod,Nat.mod_eq_of_lt hj]
   simp[vs,hk,e1,e2]
def br(rows:List (List D)):List M:=(rows.map λr=>r.map M.d).flatten
theorem ku{n:Nat} :∀{rows:List (List D)},(∀r∈rows,r.length=n)->(br rows).length=rows.length*n
 |[],_=>by simp[br]
 |r::rs,h=>by
  have:=ku (n:=n) (rows:=rs) (λr hr=>h r (by simp[hr]));unfold br at*;simp only[List.map_cons,List.flatten_cons,List.length_append,List.length_map,this,h r (by simp),List.length_cons,Nat.succ_mul];omega
theorem ss{n:Nat}(hn:0<n):∀{rows:List (List D)} {k:Nat} {m:M},(∀r∈rows,r.length=n)->(br rows)[k]?=some m->∃i j r d,k=i*n+j/\rows[i]?=some r/\r[j]?=some d/\m=.d d
 |[],k,m,_,h=>by simp[br]at h
 |r::rs,k,m,hl,h=>by
  have hr:r.length=n:=hl r (by simp);have h':((r.map M.d)++br rs)[k]?=some m:=by simpa [br] using h
  rcases Nat.lt_or_ge k n with hk|hk
  ·rw[List.getElem?_append_left (by simp[hr,hk])]at h';simp only[List.getElem?_map,Option.map_eq_some_iff]at h';obtain⟨d,hd,rfl⟩:=h';exact⟨0,k,r,d,by simp,by simp,hd,rfl⟩
  ·rw[List.getElem?_append_right (by simp[hr,hk])]at h';simp only[List.length_map,hr]at h';obtain⟨i,j,r',d,h1,h2,h3,h4⟩:=ss hn (λr hr=>hl r (by simp[hr])) h';exact⟨i+1,j,r',d,by rw[Nat.succ_mul];omega,by simpa using h2,h3,h4⟩
class gp(P:Program)(t:Nat)(n:outParam Nat):Prop where
 bytes:lL P t=some n
theorem io{P:Program}{t n b:Nat}(h:cz P t=some n)(h2:lL P t=some b):∃i:TypeInfo,P.info? t=some i/\i.size=n/\i.bytes=b:=by
 unfold cz at h;unfold lL at h2;cases hu:P.info? t with
 |none=>simp[hu]at h
 |some i=>simp[hu]at h h2;exact⟨i,rfl,h,h2⟩
section ops
variable{X:bq}{st:St}{dst:Option Nat}{ty:Nat}{pos:String}{af:Array Edge}{g:Option (Nat×Bool)}
theorem oM{P:Program}{w:World}{b k T:Nat}{arr:Array Value}{fz:Nat×Nat}(h:w.heap[b]?=some (.cells arr T fz))(hk:k<=arr.size):(loadCells ⟨b,0,none⟩ k).run P w=.ok (arr.extract 0 k) w:=by
 unfold loadCells;have Gd:(arr.extract 0 k).size=k:=by simp;omega
 refine fI k 0 _ (by omega) (by simp) ?_;intro i hi;rw[Gd]at hi;have h1:i<arr.size:=by omega
 have h2:i<min k arr.size:=by omega
 simp[cB,World.cell?,h,h1,h2]
end ops
section OC
variable{X:bq}{sl:List (Nat×V)}{bx:List (Nat×List M)}{H:Hp}
end OC
theorem rL(a b:ByteArray):(a==b)=decide (a=b):=by
 cases a with
 |mk a=>
 cases b with
 |mk b=>
 have:((ByteArray.mk a)==(ByteArray.mk b))=(a==b):=rfl;rw[this];by_cases h:a=b
 ·subst h;simp
 ·simp[h]
def c9(k:ByteArray):List (D×M)->Option M
 |[]=>none
 |(.str s,m)::r=>bif decide (s=k)then some m else c9 k r
 |_::r=>c9 k r
def cU(k:ByteArray)(v:M):List (D×M)->List (D×M)
 |[]=>[(.str k,v)]
 |(.str s,m)::r=>bif decide (s=k)then(.str k,v)::r else(.str s,m)::cU k v r
 |x::r=>x::cU k v r
def strKeys:List (D×M)->Bool
 |[]=>true
 |(.str _,_)::r=>strKeys r
 |_=>false
class gz(P:Program)(t:Nat)(e:outParam Nat):Prop where
 u:∃k,P.underlying t=some (.map k e)/\P.underlying k=some .string
theorem findNow_spec{σ:Sg}{c:Nat}{k:ByteArray} :∀{es:List (D×M)} {us:List MapEntry} {n:Nat},strKeys es=true->us.length=es.length->(∀(i:Nat) e u,es[i]?=some e->us[i]?=some u->jB σ c e u)->
  (c9 k es=none/\Instr.findNow .string (.string k) us n=some none/\cU k=cU k/\(∀v,cU k v es=es++[(.str k,v)]))\/
  ∃i m u,c9 k es=some m/\us[i]?=some u/\es[i]?=some (.str k,m)/\Instr.findNow .string (.string k) us n=some (some (n+i,u.val))/\u.key=.string k/\RM σ m u.val/\(∀v,cU k v es=es.set i (.str k,v))
 |[],us,n,_,hl,_=>by
  have:us=[]:=by simpa using hl
  subst this;exact .inl ⟨rfl,rfl,rfl,λv=>rfl⟩
 |(dk,m)::r,us,n,hk,hl,h=>by
  cases dk with
  |str s=>
   cases us with
   |nil=>simp at hl
   |cons u us=>
    obtain⟨h1,h2⟩:oE (.str s)=some u.key/\RM σ m u.val:=by
     rcases h 0 _ _ rfl rfl with h0|⟨h0,_⟩|⟨h0,_⟩
     ·exact h0
     ·cases h0
     ·cases h0
    simp only[oE,Option.some.injEq]at h1;by_cases e:s=k
    ·subst e;refine .inr ⟨0,m,u,by simp[c9],rfl,rfl,?_,h1.symm,h2,λv=>by simp[cU]⟩;simp[Instr.findNow,<-h1,Instr.sameNow,rL]
    ·have FV:(k==s)=false:=by rw[rL];simp;exactλh=>e h.symm
     have hf:Instr.findNow .string (.string k) (u::us) n=Instr.findNow .string (.string k) us (n+1):=by
      simp[Instr.findNow,<-h1,Instr.sameNow,FV]
     have MC:c9 k ((.str s,m)::r)=c9 k r:=by simp[c9,e]
     have J1:∀v,cU k v ((.str s,m)::r)=(.str s,m)::cU k v r:= λv=>by simp[cU,e]
     rcases findNow_spec (σ:=σ) (k:=k) (n:=n+1) (es:=r) (us:=us) hk (by simpa using hl) (λi e u a b=>h (i+1) e u (by simpa using a) (by simpa using b))with⟨h3,h4,_,h5⟩|⟨i,m',u',h3,h4,h5,h6,h7,h8,h9⟩
     ·exact .inl ⟨by rw[MC];exact h3,by rw[hf];exact h4,rfl,λv=>by rw[J1,h5];rfl⟩
     ·exact .inr ⟨i+1,m',u',by rw[MC];exact h3,by simpa using h4,by simpa using h5,by rw[hf,h6];congr 3;omega,h7,h8,λv=>by rw[J1,h9];rfl⟩
  |_=>simp[strKeys]at hk
theorem cA:∀{es:List (D×M)},strKeys es=true↔ ∀e∈es,∃s,e.1=.str s
 |[]=>by simp[strKeys]
 |(d,m)::r=>by
  cases d with
  |str s=>simp only[strKeys];rw[cA];simp
  |_=>simp[strKeys]
theorem eI{k s:ByteArray}{m:M}{r:List (D×M)} :c9 k ((.str s,m)::r)=if s=k then some m else c9 k r:=by
 simp only[c9];by_cases h:s=k<;>simp[h]
theorem jJ{k s:ByteArray}{v m:M}{r:List (D×M)} :cU k v ((.str s,m)::r)=if s=k then(.str k,v)::r else(.str s,m)::cU k v r:=by
 simp only[cU];by_cases h:s=k<;>simp[h]
theorem sv{k:ByteArray}{a b:List (D×M)}(h:a.Perm b):(∀e∈b,∃s,e.1=.str s)->(b.map Prod.fst).Nodup->c9 k a=c9 k b/\∀v,(cU k v a).Perm (cU k v b):=by
 induction h with
 |nil=>intro _ _;exact⟨rfl,λv=>.refl _⟩
 |cons x _ ih=>
  intro h1 h2;obtain⟨d,m⟩:=x;obtain⟨s,hs⟩:=h1 (d,m) (by simp);simp only at hs;subst hs;obtain⟨i1,i2⟩:=ih (λe he=>h1 e (by simp[he])) (by simp at h2;exact h2.2);simp only[eI,jJ];by_cases e:s=k
  ·simp only[e,if_true];exact⟨trivial,λv=>.cons _ (by assumption)⟩
  ·simp only[e,if_false];exact⟨i1,λv=>.cons _ (i2 v)⟩
 |swap x y l=>
  intro h1 h2;obtain⟨d,m⟩:=x;obtain⟨d2,m2⟩:=y;obtain⟨s,hs⟩:=h1 (d,m) (by simp);obtain⟨s2,NA⟩:=h1 (d2,m2) (by simp);simp only at hs NA;subst hs;subst NA;have FV:s≠s2:=by simp at h2;intro e;exact h2.1.1 e
  simp only[eI,jJ];by_cases e:s=k
  ·subst e;have e2:¬s2=s:= λh=>FV h.symm
   simp only[e2,if_true,if_false];exact⟨trivial,λv=>.swap _ _ _⟩
  ·by_cases e2:s2=k
   ·simp only[e,e2,if_true,if_false];exact⟨trivial,λv=>.swap _ _ _⟩
   ·simp only[e,e2,if_false];exact⟨trivial,λv=>.swap _ _ _⟩
 |trans p1 p2 Ml Mm=>
  intro h1 h2;obtain⟨a1,a2⟩:=Mm h1 h2;obtain⟨b1,b2⟩:=Ml (λe he=>h1 e (p2.mem_iff.1 he)) ((p2.map _).nodup_iff.2 h2);exact⟨b1.trans a1,λv=>(b2 v).trans (a2 v)⟩
theorem k7{k:ByteArray}{v:M} :∀{es:List (D×M)},(∀e∈es,∃s,e.1=.str s)->(cU k v es).map Prod.fst=es.map Prod.fst\/((cU k v es).map Prod.fst=es.map Prod.fst++[.str k]/\D.str k∉es.map Prod.fst)
 |[],_=>.inr ⟨rfl,by simp⟩
 |(d,m)::r,h=>by
  obtain⟨s,hs⟩:=h (d,m) (by simp);simp only at hs;subst hs;rw[jJ];by_cases e:s=k
  ·subst e;exact .inl (by simp)
  ·rw[if_neg e];rcases k7 (k:=k) (v:=v) (es:=r) λe he=>h e (by simp[he])with h1|⟨h1,h2⟩
   ·exact .inl (by simp[h1])
   ·refine .inr ⟨by simp[h1],?_⟩;simp only[List.map_cons,List.mem_cons,not_or];exact⟨λh=>e (by injection h with h;exact h.symm),h2⟩
theorem ct.strs{FT es:List (D×M)}(h:ct FT es)(hk:strKeys es=true):strKeys FT=true:=by
 rw[cA]at hk⊢;exactλe he=>hk e (h.mem.1 he)
theorem ct.look{FT es:List (D×M)}(h:ct FT es)(k:ByteArray):c9 k FT=c9 k es:=by
 rcases h with rfl|⟨h1,h2,h3⟩
 ·rfl
 ·exact(sv h1 h2 h3).1
theorem ct.x9{FT es:List (D×M)}(h:ct FT es)(k:ByteArray)(v:M):ct (cU k v FT) (cU k v es):=by
 rcases h with rfl|⟨h1,h2,h3⟩
 ·exact .inl rfl
 ·refine .inr ⟨(sv h1 h2 h3).2 v,?_,?_⟩
  ·intro e he;have h4:e.1∈(cU k v es).map Prod.fst:=List.mem_map.2 ⟨e,he,rfl⟩;rcases k7 (k:=k) (v:=v) h2 with h5|⟨h5,_⟩
   ·rw[h5]at h4;obtain⟨e2,h6,h7⟩:=List.mem_map.1 h4;obtain⟨s,h8⟩:=h2 e2 h6;exact⟨s,h7.symm.trans h8⟩
   ·rw[h5]at h4;rcases List.mem_append.1 h4 with h4|h4
    ·obtain⟨e2,h6,h7⟩:=List.mem_map.1 h4;obtain⟨s,h8⟩:=h2 e2 h6;exact⟨s,h7.symm.trans h8⟩
    ·exact⟨k,by simpa using h4⟩
  ·rcases k7 (k:=k) (v:=v) h2 with h5|⟨h5,h6⟩
   ·rw[h5];exact h3
   ·rw[h5,List.nodup_append];exact⟨h3,by simp,λa ha b hb e=>by simp at hb;subst hb;subst e;exact h6 ha⟩
section ops
variable{X:bq}{st:St}{dst:Option Nat}{ty:Nat}{pos:String}{af:Array Edge}{g:Option (Nat×Bool)}
theorem iP{P:Program}{b:Bool}{n kt:Nat}{s:ByteArray}{w:World}(h:P.underlying kt=some .string):(Instr.checkKey b (n+1) kt (.string s)).run P w=.ok () w:=by
 simp[Instr.checkKey,underlying,program,Sem.run,h]
theorem qL{T e:Nat}{x y:Operand}{i:Nat}{k:ByteArray}{es:List (D×M)}{z:D}[ht:gz X.P T e][hz:dt X.P e z](hx:st.ev x=some (.m (.mp i)))(hy:st.ev y=some (.m (.d (.str k))))(hH:st.H[i]?=some (.map es))(hk:strKeys es=true):
  aK X ⟨dst,.lookup T x y true,ty,pos,af,g⟩ st (bt (.m (match c9 k es with|some m=>.bz [m,.d (.bool true)]|none=>.bz [.d z,.d (.bool false)])) st):=by
 refine aK.quiet λa σ FC hi=>?_
 have h:=hi.ev hx;have h2:=hi.gB hy;obtain⟨kt,u1,u2⟩:=ht.u;obtain⟨zv,GK,GO⟩:=(bA hz.zero).run;generalize hu:a.eval x=u at h;cases h with
 |m h=>cases h with
  |mp i JU hh=>
   obtain⟨FT,Gr,FK,clock,h3,h4,h5,Iu⟩:=hi.hinv.obj i (.map es) (by rw[hi.hH];exact hH);rw[<-Gr.look k];replace hk:=Gr.strs hk;have GI:∀b,(Instr.checkKey b 10000 kt (.string k)).run X.P σ.w=.ok () σ.w:= λb=>iP (n:=9999) u2
   rcases findNow_spec (σ:=σ) (k:=k) (n:=0) (es:=FT) (us:=FK.toList) hk (by simpa using h4) (λi e u a b=>h5 i e u a (by simpa using b))with⟨h6,h7,_,_⟩|⟨n,m,u,h6,h7,h8,h9,H5,La,_⟩
   ·rw[h6];refine⟨.tuple #[zv,.bool false],?_,.m (.bz _ _ rfl ?_)⟩
    ·simp only[execOp,hu,h2,Instr.lookup];simp[underlying,program,Sem.run,u1,getObj,h3,GI,Instr.findKey,u2,h7,GK]
    ·intro n m v hm hv
     match n with
     |0=>simp at hm hv;subst hm;subst hv;exact .d (bW GO)
     |1=>simp at hm hv;subst hm;subst hv;exact .d (.bool _)
     |n+2=>simp at hm
   ·rw[h6];refine⟨.tuple #[u.val,.bool true],?_,.m (.bz _ _ rfl ?_)⟩
    ·simp only[execOp,hu,h2,Instr.lookup];simp[underlying,program,Sem.run,u1,getObj,h3,GI,Instr.findKey,u2,h9]
    ·intro n m' v hm hv
     match n with
     |0=>simp at hm hv;subst hm;subst hv;exact La
     |1=>simp at hm hv;subst hm;subst hv;exact .d (.bool _)
     |n+2=>simp at hm
theorem lU{T e:Nat}{x y:Operand}{i:Nat}{k:ByteArray}{es:List (D×M)}{z:D}[ht:gz X.P T e][hz:dt X.P e z](hx:st.ev x=some (.m (.mp i)))(hy:st.ev y=some (.m (.d (.str k))))(hH:st.H[i]?=some (.map es))(hk:strKeys es=true):
  aK X ⟨dst,.lookup T x y false,ty,pos,af,g⟩ st (bt (.m (match c9 k es with|some m=>m|none=>.d z)) st):=by
 refine aK.quiet λa σ FC hi=>?_
 have h:=hi.ev hx;have h2:=hi.gB hy;obtain⟨kt,u1,u2⟩:=ht.u;obtain⟨zv,GK,GO⟩:=(bA hz.zero).run;generalize hu:a.eval x=u at h;cases h with
 |m h=>cases h with
  |mp i JU hh=>
   obtain⟨FT,Gr,FK,clock,h3,h4,h5,Iu⟩:=hi.hinv.obj i (.map es) (by rw[hi.hH];exact hH);rw[<-Gr.look k];replace hk:=Gr.strs hk;have GI:∀b,(Instr.checkKey b 10000 kt (.string k)).run X.P σ.w=.ok () σ.w:= λb=>iP (n:=9999) u2
   rcases findNow_spec (σ:=σ) (k:=k) (n:=0) (es:=FT) (us:=FK.toList) hk (by simpa using h4) (λi e u a b=>h5 i e u a (by simpa using b))with⟨h6,h7,_,_⟩|⟨n,m,u,h6,h7,h8,h9,H5,La,_⟩
   ·rw[h6];refine⟨zv,?_,.m (.d (bW GO))⟩;simp only[execOp,hu,h2,Instr.lookup];simp[underlying,program,Sem.run,u1,getObj,h3,GI,Instr.findKey,u2,h7,GK]
   ·rw[h6];refine⟨u.val,?_,.m La⟩;simp only[execOp,hu,h2,Instr.lookup];simp[underlying,program,Sem.run,u1,getObj,h3,GI,Instr.findKey,u2,h9]
theorem nf{T e:Nat}{x y z:Operand}{i:Nat}{k:ByteArray}{es:List (D×M)}{m:M}[ht:gz X.P T e](hx:st.ev x=some (.m (.mp i)))(hy:st.ev y=some (.m (.d (.str k))))(hz:st.ev z=some (.m m))(hH:st.H[i]?=some (.map es))(hk:strKeys es=true):
  aK X ⟨dst,.mapUpdate T x y z,ty,pos,af,g⟩ st (bt (.m .undef) ⟨st.sl,st.bx,st.H.set i (.map (cU k m es))⟩):=by
 intro a σ FC hi;have h:=hi.ev hx;have h2:=hi.gB hy;have hm:=hi.ev hz;obtain⟨kt,u1,u2⟩:=ht.u;generalize hu:a.eval x=u at h;cases hm with
 |m hm=>
 cases h with
 |m h=>cases h with
  |mp i JU hh=>
   have G3:σ.H[i]?=some (.map es):=by rw[hi.hH];exact hH
   obtain⟨FT,Gr,FK,clock,h3,h4,h5,Iu⟩:=hi.hinv.obj i (.map es) G3;replace hk:=Gr.strs hk;have FJ:=cZ h3;have GI:∀b,(Instr.checkKey b 10000 kt (.string k)).run X.P σ.w=.ok () σ.w:= λb=>iP (n:=9999) u2
   have x9:∀(He:Array MapEntry) (G8:Nat),He.size=(cU k m FT).length->(∀(n:Nat) e u,(cU k m FT)[n]?=some e->He[n]?=some u->jB σ G8 e u)->fQ He G8->
     ∃τ:Sg,τ.w=bI σ.w (σ.l i) (.map He G8)/\bb X τ FC ⟨st.sl,st.bx,st.H.set i (.map (cU k m es))⟩ a:=by
    intro He G8 g1 g2 g3;obtain⟨τ,k1,k2,k3,k4,k5⟩:=hi.eU (j:=i) (b':=σ.l i) (ob:=.map es) (F_:=.map (cU k m es)) (w':=bI σ.w (σ.l i) (.map He G8)) hH trivial rfl rfl rfl (by rw[eb];exact Nat.le_refl _)
     (λc _ hc=>dU hc) (.inl rfl) (λo v ho=>(ho trivial).elim) rfl (by
      intro τ HU hw _ _;exact⟨_,Gr.x9 k m,He,G8,by rw[hw];exact c7 FJ,g1,λn e u a b=>(g2 n e u a b).up λv hv=>hv.mono HU,g3⟩)
    exact⟨τ,k1,k5⟩
   rcases findNow_spec (σ:=σ) (k:=k) (n:=0) (es:=FT) (us:=FK.toList) hk (by simpa using h4) (λi e u a b=>h5 i e u a (by simpa using b))with⟨h6,h7,_,h8⟩|⟨n,m',u,h6,h7,h8,h9,H5,La,KJ⟩
   ·obtain⟨τ,k1,k2⟩:=x9 (FK.push {key:=.string k,val:=a.eval z,born:=clock}) (clock+1) (by rw[h8];simp[h4]) (by
     intro n e u he hu;rw[h8]at he;rcases Nat.lt_or_ge n FT.length with hn|hn
     ·rw[List.getElem?_append_left hn]at he;rw[Array.getElem?_push,if_neg (by omega)]at hu;exact(h5 n e u he hu).Ew (by obtain⟨s,hs⟩:=cA.1 hk e (List.mem_of_getElem? he);rw[hs];simp)
     ·rw[List.getElem?_append_right hn]at he;have OD:n-FT.length=0:=by
       rcases Nat.eq_zero_or_pos (n-FT.length)with h|h
       ·exact h
       ·rw[List.getElem?_eq_none (by simp;omega)]at he;cases he
      rw[OD]at he;simp at he;subst he;rw[Array.getElem?_push,if_pos (by omega)]at hu;injection hu with hu;subst hu
      exact .inl ⟨rfl,hm⟩) Iu.push
    refine bS.skip ?_ ⟨.m .undef,_,τ,FC,⟨rfl,rfl⟩,k1,k2,.m (.undef _)⟩;simp only[execOp,hu,h2,Instr.mapUpdate];simp[underlying,program,Sem.run,u1,getObj,h3,GI,Instr.findKey,u2,h7,setObj,bI]
   ·have Iv:n<FK.size:=by
     have:=h7;simp at this;rcases Nat.lt_or_ge n FK.size with h|h
     ·exact h
     ·simp[Array.getElem?_eq_none h]at this
    obtain⟨τ,k1,k2⟩:=x9 (FK.modify n λe=>{e with key:=.string k,val:=a.eval z}) clock (by rw[KJ];simp[h4]) (by
     intro n' e u' he hu;rw[KJ]at he;rw[Array.getElem?_modify]at hu;by_cases en:n=n'
     ·subst en;rw[lT h8]at he;injection he with he;subst he
      simp[Iv]at hu;subst hu;exact .inl ⟨rfl,hm⟩
     ·rw[List.getElem?_set_ne en]at he;rw[if_neg en]at hu;exact h5 n' e u' he hu) (Iu.modify λ_=>rfl)
    refine bS.skip ?_ ⟨.m .undef,_,τ,FC,⟨rfl,rfl⟩,k1,k2,.m (.undef _)⟩;have LB:FK[n]?.map (·.key)=some (.string k):=by
     have:FK[n]?=some u:=by simpa using h7
     rw[this];simp[H5]
    have FN:(Instr.keyThatStays (.string k) (.string k)).run X.P σ.w=.ok (.string k) σ.w:=by simp[Instr.keyThatStays,Instr.sameBits,rL]
    simp only[execOp,hu,h2,Instr.mapUpdate];simp[underlying,program,Sem.run,u1,getObj,h3,GI,Instr.findKey,u2,h9,setObj,bI,LB,FN]
theorem CP{t1 t2:Nat}{x y:Operand}{k:IntKind}{m n:Int}(hx:st.ev x=some (.m (.d (.int k m))))(hy:st.ev y=some (.m (.d (.int k n)))):
  aK X ⟨dst,.call ⟨.builtin .max,#[x,y],#[t1,t2]⟩,ty,pos,af,g⟩ st (bt (.m (.d (.int k (if n>m then n else m)))) st):=by
 refine aK.quiet λa σ FC hi=>?_
 exact⟨.int k (if n>m then n else m),by simp[execOp,resolve,invoke,builtin,Builtin.max_,Builtin.max2,hi.cC hx,hi.cC hy],.m (.d (.int _ _))⟩
theorem CQ{t1 t2:Nat}{x y:Operand}{k:IntKind}{m n:Int}(hx:st.ev x=some (.m (.d (.int k m))))(hy:st.ev y=some (.m (.d (.int k n)))):
  aK X ⟨dst,.call ⟨.builtin .min,#[x,y],#[t1,t2]⟩,ty,pos,af,g⟩ st (bt (.m (.d (.int k (if n<m then n else m)))) st):=by
 refine aK.quiet λa σ FC hi=>?_
 exact⟨.int k (if n<m then n else m),by simp[execOp,resolve,invoke,builtin,Builtin.min_,Builtin.min2,hi.cC hx,hi.cC hy],.m (.d (.int _ _))⟩
class jK(P:Program)(t:Nat)(k:outParam IntKind):Prop where
 u:P.underlying t=some (.int k)
theorem ux{s t:Nat}{x:Operand}{k k' k0:IntKind}{n:Int}[hs:jK X.P s k0][ht:jK X.P t k'](hx:st.ev x=some (.m (.d (.int k n)))):
  aK X ⟨dst,.convert s t x,ty,pos,af,g⟩ st (bt (.m (.d (.int k' (k'.wrap n)))) st):=by
 refine aK.quiet λa σ FC hi=>?_
 exact⟨.int k' (k'.wrap n),by simp[execOp,convert,underlying,program,Sem.run,hs.u,ht.u,hi.cC hx,Conv.intToInt],.m (.d (.int _ _))⟩
end ops
section mk
variable{X:bq}{st:St}{dst:Option Nat}{ty:Nat}{pos:String}{af:Array Edge}{g:Option (Nat×Bool)}
theorem tV{T e n nb len:Nat}{x y:Operand}{k1 k2:IntKind}{z:D}[ht:aL X.P T e][hs:bh X.P e n][hb:gp X.P e nb][hz:dt X.P e z](hn:Nat.blt 0 n=true)(Ga:(aN z).length=n)
  (hx:st.ev x=some (.m (.d (.int k1 len)))) (hy:st.ev y=some (.m (.d (.int k2 len)))) (Gh:len*nb<=140737488355328) (FZ:len<=140737488355328):
  aK X ⟨dst,.makeSlice T x y,ty,pos,af,g⟩ st (bt (.m (.bB st.H.length 0 len)) ⟨st.sl,st.bx,st.H++[.row false n 0 (cq n len (aN z))]⟩):=by
 intro a σ FC hi;have Gt:=aQ hn;have h1:=hi.cC hx;have h2:=hi.cC hy;obtain⟨inf,i1,i2,i3⟩:=io hs.size hb.bytes;obtain⟨v,GK,GO⟩:=(bA hz.zero).run;have HA:eN σ ((aN z).map .d) v.cells:=(RM.d (bW GO):RM σ (.d z) v).cells rfl;have GR:v.cells.size=n:=by rw[HA.1];simpa using Ga
 have hc:eN σ (cq n len (aN z)) ((Array.range (len*n)).map λi=>v.cells[i%v.cells.size]!):=by
  refine⟨by simp[cq],λi m u hm hu=>?_⟩;have FL:i<len*n:=by
   rcases Nat.lt_or_ge i (len*n)with h|h
   ·exact h
   ·rw[Array.getElem?_eq_none (by simpa using h)]at hu;cases hu
  have LX:i%n<n:=Nat.mod_lt _ Gt;have IW:i%n<(aN z).length:=by omega
  simp[cq,FL,Ga]at hm;simp[FL,GR]at hu;have FJ:i%n<v.cells.size:=by omega
  subst hm;subst hu;refine HA.2 (i%n) _ _ ?_ ?_
  ·simp[List.getElem?_eq_getElem IW]
  ·simp[FJ]
 obtain⟨τ,g1,g2,g3,g4,g5⟩:=hi.newObj (.row false n 0 (cq n len (aN z))) (.cells ((Array.range (len*n)).map λi=>v.cells[i%v.cells.size]!) e (0,0)) (by
  intro τ hm hw;refine⟨Gt,_,e,len,len,by rw[hw];exact dx _ _,by simp,Nat.le_refl _,⟨by simp[cq],FZ⟩,?_⟩;intro k m u Ha hu;exact⟨(hc.2 k m u Ha hu).1.mono hm,(hc.2 k m u Ha hu).2⟩)
 refine bS.value (u:=.slice (some ⟨σ.w.heap.size,0,none⟩) len len) (w':=τ.w) ?_ ⟨_,_,τ,FC,⟨rfl,rfl⟩,rfl,g5,?_⟩
 ·have Jm:∀w:World,(typeInfo e).run X.P w=.ok inf w:= λw=>by simp[typeInfo,program,Sem.run,i1]
  have F6:∀w:World,(underlying T).run X.P w=.ok (.slice e) w:= λw=>by simp[underlying,program,Sem.run,ht.u]
  have I8:IntKind.i64.wrap (len:Int)=len:=IntWalk.i64_in _ ⟨by omega,by omega⟩;have Lb:¬((inf.bytes:Int)*(len:Int)>2^48):=by
   rw[i3];have:((len*nb:Nat):Int)<=140737488355328:=by omega
   rw[Int.natCast_mul,Int.mul_comm]at this;omega
  have I9:¬((len:Int)<0):=by omega
  have KK:¬(len*inf.bytes>roomBytes):=by rw[i3];unfold roomBytes;omega
  by_cases h0:len*n=0
  ·have Lc:len=0:=by
    rcases Nat.mul_eq_zero.1 h0 with h|h
    ·exact h
    ·omega
   subst Lc;have e0:Array.range 0=(#[]:Array Nat):=by decide
   have w0:IntKind.i64.wrap 0=0:=by decide
   simp only[execOp,Instr.makeSlice,h1,h2,asInt,asIntOf];simp[F6,Jm,w0,bF hs.size,askRoom,roomBytes,newRow,newObj,Sem.run,g1,e0]
  ·simp only[execOp,Instr.makeSlice,h1,h2,asInt,asIntOf];simp[F6,Jm,I8,bF hs.size,askRoom,newRow,newObj,Sem.run,g1,Lb,I9,KK,h0,GK]
   first|done|omega|(split<;>first|rfl|omega)
 ·have L3:σ.H.length=st.H.length:=by rw[hi.hH]
  have Jn:τ.l st.H.length=σ.w.heap.size:=by rw[<-L3];exact g2
  refine .m (.bB _ 0 len _ len (.inr ⟨false,n,0,cq n len (aN z),by rw[g3];simp,Nat.le_refl _⟩) ?_);intro GP J0 FG hh;rw[g3]at hh;simp at hh;obtain⟨e1,e2,e3⟩:=hh;subst e1;subst e2;subst e3;exact⟨by rw[Jn],by simp[cq],_,e,by rw[Jn,g1];exact dx _ _,by simp⟩
end mk
section rules
variable{X:bq}{ops:Array Oper}{rest:List Oper}{post:St->Prop}{FQ:List Ef->St->Prop}{sl:List (Nat×V)}{bx:List (Nat×List M)}{H:Hp}{d ty:Nat}{pos:String}{af:Array Edge}
theorem bK.vq{o:Oper}{v:V}{H':Hp}{st:St}(hg:o.guard=none)(hd:o.dst=some d)(hn:d<X.n)
  (h:∀FE,Ag ops o ⟨some d,v,[],[],none,true,some H'⟩ st FE->aK X o FE (bt v ⟨FE.sl,FE.bx,H'⟩)):bK X ops o ⟨some d,v,[],[],none,true,some H'⟩ st:=
 λFE ag=>(h FE ag).An hg hd hn
theorem bK.zw{o:Oper}{v:V}{H':Hp}{st:St}(hg:o.guard=none)(hd:o.dst=none)
  (h:∀FE,Ag ops o ⟨none,v,[],[],none,true,some H'⟩ st FE->aK X o FE (bt v ⟨FE.sl,FE.bx,H'⟩)):bK X ops o ⟨none,v,[],[],none,true,some H'⟩ st:=
 λFE ag=>(h FE ag).zu hg hd
theorem jq{T:Nat}{x:Operand}{i off:Nat}{cs:List M}{m:M}[ht:cj X.P T](hn:Nat.blt d X.n=true)(hx:ba sl x=some (.m (.ref i off)))(hH:H[i]?=some (.box cs))(hr:cs[off]?=some m)(k:TL X ops rest ⟨(d,(.m m))::sl,bx,H⟩ post):TL X ops (⟨some d,.load T x,ty,pos,af,none⟩::rest) ⟨sl,bx,H⟩ post:=
 TL.o1 rfl rfl hn (mJ hx hH (by simp[ch,ht.cell,hr])) k
theorem kI{T:Nat}{x:Operand}{i off:Nat}{cs:List M}{m:M}[ht:cj X.P T](hn:Nat.blt d X.n=true)(hx:ba sl x=some (.m (.ref i off)))(hH:H[i]?=some (.box cs))(hr:cs[off]?=some m)(k:TF X ops rest ⟨(d,(.m m))::sl,bx,H⟩ λIi zz=>FQ (⟨some d,(.m m),[],[],none,true,none⟩::Ii) zz):TF X ops (⟨some d,.load T x,ty,pos,af,none⟩::rest) ⟨sl,bx,H⟩ FQ:=
 TF.cons (e:=⟨some d,(.m m),[],[],none,true,none⟩) (bK.quiet rfl rfl (aQ hn) λFE ag=>mJ ((ag.ev (x:=x) (by simp[Op.operands,Call.operands])).trans hx) (by rw[ag.H rfl];exact hH) (by simp[ch,ht.cell,hr])) rfl k
theorem Ap{T n:Nat}{x:Operand}{i off:Nat}{cs F8:List M}{ds:List D}[ht:cL X.P T n](hn:Nat.blt d X.n=true)(hx:ba sl x=some (.m (.ref i off)))(hH:H[i]?=some (.box cs))(hs:sub cs off n=some F8)(hr:cT F8=some ds)(k:TF X ops rest ⟨(d,(.m (.d (.agg ds))))::sl,bx,H⟩ λIi zz=>FQ (⟨some d,(.m (.d (.agg ds))),[],[],none,true,none⟩::Ii) zz):TF X ops (⟨some d,.load T x,ty,pos,af,none⟩::rest) ⟨sl,bx,H⟩ FQ:=
 TF.cons (e:=⟨some d,(.m (.d (.agg ds))),[],[],none,true,none⟩) (bK.quiet rfl rfl (aQ hn) λFE ag=>mJ ((ag.ev (x:=x) (by simp[Op.operands,Call.operands])).trans hx) (by rw[ag.H rfl];exact hH) (by simp[ch,ht.agg,ht.size,Nat.ble_eq_true_of_le (sub_eq hs).1,pack,(sub_eq hs).2,hr])) rfl k
theorem pK{T:Nat}{x:Operand}{i FD off ec:Nat}{acc:Bool}{cs:List M}{m:M}[ht:cj X.P T](hn:Nat.blt d X.n=true)(hx:ba sl x=some (.m (.bG i FD off)))(hH:H[i]?=some (.row acc ec FD cs))(hr:cs[off]?=some m)(k:TF X ops rest ⟨(d,(.m m))::sl,bx,H⟩ λIi zz=>FQ (⟨some d,(.m m),[],[],none,true,none⟩::Ii) zz):TF X ops (⟨some d,.load T x,ty,pos,af,none⟩::rest) ⟨sl,bx,H⟩ FQ:=
 TF.cons (e:=⟨some d,(.m m),[],[],none,true,none⟩) (bK.quiet rfl rfl (aQ hn) λFE ag=>pJ ((ag.ev (x:=x) (by simp[Op.operands,Call.operands])).trans hx) (by rw[ag.H rfl];exact hH) (by simp[ch,ht.cell,hr])) rfl k
theorem Aq{T n:Nat}{x:Operand}{i FD off ec:Nat}{acc:Bool}{cs F8:List M}{ds:List D}[ht:cL X.P T n](hn:Nat.blt d X.n=true)(hx:ba sl x=some (.m (.bG i FD off)))(hH:H[i]?=some (.row acc ec FD cs))(hs:(cs.drop off).take n=F8)(hle:off+n<=cs.length)(hr:cT F8=some ds)(k:TF X ops rest ⟨(d,(.m (.d (.agg ds))))::sl,bx,H⟩ λIi zz=>FQ (⟨some d,(.m (.d (.agg ds))),[],[],none,true,none⟩::Ii) zz):TF X ops (⟨some d,.load T x,ty,pos,af,none⟩::rest) ⟨sl,bx,H⟩ FQ:=
 TF.cons (e:=⟨some d,(.m (.d (.agg ds))),[],[],none,true,none⟩) (bK.quiet rfl rfl (aQ hn) λFE ag=>pJ ((ag.ev (x:=x) (by simp[Op.operands,Call.operands])).trans hx) (by rw[ag.H rfl];exact hH) (by simp[ch,ht.agg,ht.size,Nat.ble_eq_true_of_le hle,pack,hs,hr])) rfl k
theorem Ar{t e ec:Nat}{x y:Operand}{j FD len:Nat}{acc:Bool}{cs:List M}{kk:IntKind}{i:Int}[ht:aL X.P t e][hs:bh X.P e ec](hn:Nat.blt d X.n=true)(hx:ba sl x=some (.m (.bB j FD len)))(hy:ba sl y=some (.m (.d (.int kk i))))(hH:H[j]?=some (.row acc ec FD cs))(h0:0<=i)(FJ:i<len)(k:TL X ops rest ⟨(d,(.m (.bG j FD (i.toNat*ec))))::sl,bx,H⟩ post):TL X ops (⟨some d,.indexAddr t x y,ty,pos,af,none⟩::rest) ⟨sl,bx,H⟩ post:=
 TL.o1 rfl rfl hn (jI hx hy hH h0 FJ) k
theorem kJ{t e ec:Nat}{x y:Operand}{j FD len:Nat}{acc:Bool}{cs:List M}{kk:IntKind}{i:Int}[ht:aL X.P t e][hs:bh X.P e ec](hn:Nat.blt d X.n=true)(hx:ba sl x=some (.m (.bB j FD len)))(hy:ba sl y=some (.m (.d (.int kk i))))(hH:H[j]?=some (.row acc ec FD cs))(h0:0<=i)(FJ:i<len)(k:TF X ops rest ⟨(d,(.m (.bG j FD (i.toNat*ec))))::sl,bx,H⟩ λIi zz=>FQ (⟨some d,(.m (.bG j FD (i.toNat*ec))),[],[],none,true,none⟩::Ii) zz):TF X ops (⟨some d,.indexAddr t x y,ty,pos,af,none⟩::rest) ⟨sl,bx,H⟩ FQ:=
 TF.cons (e:=⟨some d,(.m (.bG j FD (i.toNat*ec))),[],[],none,true,none⟩) (bK.quiet rfl rfl (aQ hn) λFE ag=>jI ((ag.ev (x:=x) (by simp[Op.operands,Call.operands])).trans hx) ((ag.ev (x:=y) (by simp[Op.operands,Call.operands])).trans hy) (by rw[ag.H rfl];exact hH) h0 FJ) rfl k
theorem CR{t e:Nat}{x:Operand}{j FD len:Nat}[ht:aL X.P t e](hn:Nat.blt d X.n=true)(hx:ba sl x=some (.m (.bB j FD len)))(k:TF X ops rest ⟨(d,(.m (.d (.int .i64 len))))::sl,bx,H⟩ λIi zz=>FQ (⟨some d,(.m (.d (.int .i64 len))),[],[],none,true,none⟩::Ii) zz):TF X ops (⟨some d,.call ⟨.builtin .len,#[x],#[t]⟩,ty,pos,af,none⟩::rest) ⟨sl,bx,H⟩ FQ:=
 TF.cons (e:=⟨some d,(.m (.d (.int .i64 len))),[],[],none,true,none⟩) (bK.quiet rfl rfl (aQ hn) λFE ag=>wF ((ag.ev (x:=x) (by simp[Op.operands,Call.operands])).trans hx)) rfl k
theorem sx{T e:Nat}{x y:Operand}{i:Nat}{kk:ByteArray}{es:List (D×M)}{z:D}[ht:gz X.P T e][hz:dt X.P e z](hn:Nat.blt d X.n=true)(hx:ba sl x=some (.m (.mp i)))(hy:ba sl y=some (.m (.d (.str kk))))(hH:H[i]?=some (.map es))(hk:strKeys es=true)(k:TL X ops rest ⟨(d,(.m (match c9 kk es with|some m=>.bz [m,.d (.bool true)]|none=>.bz [.d z,.d (.bool false)])))::sl,bx,H⟩ post):TL X ops (⟨some d,.lookup T x y true,ty,pos,af,none⟩::rest) ⟨sl,bx,H⟩ post:=
 TL.o1 rfl rfl hn (qL hx hy hH hk) k
theorem x_{T e:Nat}{x y:Operand}{i:Nat}{kk:ByteArray}{es:List (D×M)}{z:D}[ht:gz X.P T e][hz:dt X.P e z](hn:Nat.blt d X.n=true)(hx:ba sl x=some (.m (.mp i)))(hy:ba sl y=some (.m (.d (.str kk))))(hH:H[i]?=some (.map es))(hk:strKeys es=true)(k:TL X ops rest ⟨(d,(.m (match c9 kk es with|some m=>m|none=>.d z)))::sl,bx,H⟩ post):TL X ops (⟨some d,.lookup T x y false,ty,pos,af,none⟩::rest) ⟨sl,bx,H⟩ post:=
 TL.o1 rfl rfl hn (lU hx hy hH hk) k
theorem yd{T e:Nat}{x y:Operand}{i:Nat}{kk:ByteArray}{es:List (D×M)}{z:D}[ht:gz X.P T e][hz:dt X.P e z](hn:Nat.blt d X.n=true)(hx:ba sl x=some (.m (.mp i)))(hy:ba sl y=some (.m (.d (.str kk))))(hH:H[i]?=some (.map es))(hk:strKeys es=true)(k:TF X ops rest ⟨(d,(.m (match c9 kk es with|some m=>m|none=>.d z)))::sl,bx,H⟩ λIi zz=>FQ (⟨some d,(.m (match c9 kk es with|some m=>m|none=>.d z)),[],[],none,true,none⟩::Ii) zz):TF X ops (⟨some d,.lookup T x y false,ty,pos,af,none⟩::rest) ⟨sl,bx,H⟩ FQ:=
 TF.cons (e:=⟨some d,(.m (match c9 kk es with|some m=>m|none=>.d z)),[],[],none,true,none⟩) (bK.quiet rfl rfl (aQ hn) λFE ag=>lU ((ag.ev (x:=x) (by simp[Op.operands,Call.operands])).trans hx) ((ag.ev (x:=y) (by simp[Op.operands,Call.operands])).trans hy) (by rw[ag.H rfl];exact hH) hk) rfl k
theorem oN{s t:Nat}{x:Operand}{kk k2 k0:IntKind}{n:Int}[hs:jK X.P s k0][ht:jK X.P t k2](hn:Nat.blt d X.n=true)(hx:ba sl x=some (.m (.d (.int kk n))))(k:TL X ops rest ⟨(d,(.m (.d (.int k2 (k2.wrap n)))))::sl,bx,H⟩ post):TL X ops (⟨some d,.convert s t x,ty,pos,af,none⟩::rest) ⟨sl,bx,H⟩ post:=
 TL.o1 rfl rfl hn (ux hx) k
theorem zx{T:Nat}{x:Operand}{m:M}{cs:List M}(hn:Nat.blt d X.n=true)(hx:ba sl x=some (.m m))(hc:dJ m=some cs)(k:TL X ops rest ⟨(d,(.m (.ref H.length 0)))::sl,bx,H++[Ob.box cs]⟩ post):TL X ops (⟨some d,.box T x,ty,pos,af,none⟩::rest) ⟨sl,bx,H⟩ post:=
 TL.o1 rfl rfl hn ((by rw[<-(bQ hc).1];exact Bx hx (bQ hc).2)) k
theorem k8{T:Nat}(hn:Nat.blt d X.n=true)(k:TL X ops rest ⟨(d,(.m (.mp H.length)))::sl,bx,H++[Ob.map []]⟩ post):TL X ops (⟨some d,.makeMap T none,ty,pos,af,none⟩::rest) ⟨sl,bx,H⟩ post:=
 TL.o1 rfl rfl hn (wE) k
theorem vr{T e n nb len:Nat}{x y:Operand}{k1 k2:IntKind}{z:D}[ht:aL X.P T e][hs:bh X.P e n][hb:gp X.P e nb][hz:dt X.P e z](hn:Nat.blt d X.n=true)(hx:ba sl x=some (.m (.d (.int k1 len))))(hy:ba sl y=some (.m (.d (.int k2 len))))(h0:Nat.blt 0 n=true)(Ga:(aN z).length=n)(Gh:len*nb<=140737488355328)(FZ:len<=140737488355328)(k:TL X ops rest ⟨(d,(.m (.bB H.length 0 len)))::sl,bx,H++[Ob.row false n 0 (cq n len (aN z))]⟩ post):TL X ops (⟨some d,.makeSlice T x y,ty,pos,af,none⟩::rest) ⟨sl,bx,H⟩ post:=
 TL.o1 rfl rfl hn (tV h0 Ga hx hy Gh FZ) k
theorem kK{T n:Nat}{x y:Operand}{i off:Nat}{cs new F8:List M}{m:M}[hs:bh X.P T n](hx:ba sl x=some (.m (.ref i off)))(hy:ba sl y=some (.m m))(hH:H[i]?=some (.box cs))(hc:dJ m=some new)(hl:Nat.beq new.length n=true)(hw:wr cs off new=some F8)(k:TL X ops rest ⟨sl,bx,H.set i (Ob.box F8)⟩ post):TL X ops (⟨none,.store T x y,ty,pos,af,none⟩::rest) ⟨sl,bx,H⟩ post:=
 TL.zm rfl rfl (nQ hx hy hH (by rw[(bQ hc).1];exact Nat.eq_of_beq_eq_true hl) (bQ hc).2 (by rw[(bQ hc).1];exact kr hw)) k
theorem pL{T n:Nat}{x y:Operand}{i off:Nat}{cs new F8:List M}{m:M}[hs:bh X.P T n](hx:ba sl x=some (.m (.ref i off)))(hy:ba sl y=some (.m m))(hH:H[i]?=some (.box cs))(hc:dJ m=some new)(hl:Nat.beq new.length n=true)(hw:wr cs off new=some F8)(k:TF X ops rest ⟨sl,bx,H.set i (Ob.box F8)⟩ λIi zz=>FQ (⟨none,.m .undef,[],[],none,true,some (H.set i (Ob.box F8))⟩::Ii) zz):TF X ops (⟨none,.store T x y,ty,pos,af,none⟩::rest) ⟨sl,bx,H⟩ FQ:=
 TF.cons (e:=⟨none,.m .undef,[],[],none,true,some (H.set i (Ob.box F8))⟩) (bK.zw rfl rfl λFE ag=>(by have FN:=ag.H rfl;simp only at FN;have:=(nQ (X:=X) (st:=FE) (dst:=none) (ty:=ty) (pos:=pos) (af:=af) (g:=none) (T:=T) ((ag.ev (x:=x) (by simp[Op.operands,Call.operands])).trans hx) ((ag.ev (x:=y) (by simp[Op.operands,Call.operands])).trans hy) (by rw[ag.H rfl];exact hH) (by rw[(bQ hc).1];exact Nat.eq_of_beq_eq_true hl) (bQ hc).2 (by rw[(bQ hc).1];exact kr hw));rw[FN]at this;exact this)) rfl k
theorem At{T n:Nat}{x y:Operand}{i FD off ec:Nat}{cs new F8:List M}{m:M}[hs:bh X.P T n](hx:ba sl x=some (.m (.bG i FD off)))(hy:ba sl y=some (.m m))(hH:H[i]?=some (.row false ec FD cs))(hc:dJ m=some new)(hl:Nat.beq new.length n=true)(hw:cm cs off new=some F8)(k:TL X ops rest ⟨sl,bx,H.set i (Ob.row false ec FD F8)⟩ post):TL X ops (⟨none,.store T x y,ty,pos,af,none⟩::rest) ⟨sl,bx,H⟩ post:=
 TL.zm rfl rfl (jH hx hy hH (by rw[(bQ hc).1];exact Nat.eq_of_beq_eq_true hl) (bQ hc).2 (by rw[(bQ hc).1];exact hw)) k
theorem Au{T n:Nat}{x y:Operand}{i FD off ec:Nat}{cs new F8:List M}{m:M}[hs:bh X.P T n](hx:ba sl x=some (.m (.bG i FD off)))(hy:ba sl y=some (.m m))(hH:H[i]?=some (.row false ec FD cs))(hc:dJ m=some new)(hl:Nat.beq new.length n=true)(hw:cm cs off new=some F8)(k:TF X ops rest ⟨sl,bx,H.set i (Ob.row false ec FD F8)⟩ λIi zz=>FQ (⟨none,.m .undef,[],[],none,true,some (H.set i (Ob.row false ec FD F8))⟩::Ii) zz):TF X ops (⟨none,.store T x y,ty,pos,af,none⟩::rest) ⟨sl,bx,H⟩ FQ:=
 TF.cons (e:=⟨none,.m .undef,[],[],none,true,some (H.set i (Ob.row false ec FD F8))⟩) (bK.zw rfl rfl λFE ag=>(by have FN:=ag.H rfl;simp only at FN;have:=(jH (X:=X) (st:=FE) (dst:=none) (ty:=ty) (pos:=pos) (af:=af) (g:=none) (T:=T) ((ag.ev (x:=x) (by simp[Op.operands,Call.operands])).trans hx) ((ag.ev (x:=y) (by simp[Op.operands,Call.operands])).trans hy) (by rw[ag.H rfl];exact hH) (by rw[(bQ hc).1];exact Nat.eq_of_beq_eq_true hl) (bQ hc).2 (by rw[(bQ hc).1];exact hw));rw[FN]at this;exact this)) rfl k
theorem eJ{T e:Nat}{x y z:Operand}{i:Nat}{kk:ByteArray}{es:List (D×M)}{m:M}[ht:gz X.P T e](hx:ba sl x=some (.m (.mp i)))(hy:ba sl y=some (.m (.d (.str kk))))(hz:ba sl z=some (.m m))(hH:H[i]?=some (.map es))(hk:strKeys es=true)(k:TL X ops rest ⟨sl,bx,H.set i (Ob.map (cU kk m es))⟩ post):TL X ops (⟨none,.mapUpdate T x y z,ty,pos,af,none⟩::rest) ⟨sl,bx,H⟩ post:=
 TL.zm rfl rfl (nf hx hy hz hH hk) k
theorem gq{f:Nat}{args:List Operand}{Gj:Array Nat}{ms:List M}{r:M}{H':Hp}[hf:bp X.P f](h:CT X.P f ms H λr' h'=>r'=r/\h'=H')(hn:Nat.blt d X.n=true)(ha:cE sl args=some ms)
  (k:TF X ops rest ⟨(d,.m r)::sl,bx,H'⟩ λes zz=>FQ (⟨some d,.m r,[],[],none,true,some H'⟩::es) zz):TF X ops (⟨some d,.call ⟨.value (.func f),args.toArray,Gj⟩,ty,pos,af,none⟩::rest) ⟨sl,bx,H⟩ FQ:=by
 refine TF.cons (e:=⟨some d,.m r,[],[],none,true,some H'⟩) (bK.vq rfl rfl (aQ hn) λFE ag=>?_) rfl k;have FN:=ag.H rfl;simp only at FN;have h1:=pD (X:=X) (st:=FE) (dst:=some d) (ty:=ty) (pos:=pos) (af:=af) (g:=none) (Gj:=Gj) (args:=args) (f:=f) (ms:=ms) (post:= λr' h'=>r'=r/\h'=H') (by rw[ag.cE (λx hx=>by simp[Op.operands,Call.operands];exact .inr hx),oI];exact ha) (by rw[FN];exact h);intro a σ FC hi;have h2:=h1 a σ FC hi;have hp:∀v s,(∃r0 h0,v=V.m r0/\(r0=r/\h0=H')/\s=(⟨FE.sl,FE.bx,h0⟩:St))->bt (.m r) ⟨FE.sl,FE.bx,H'⟩ v s:=by rintro v s ⟨r0,h0,rfl,⟨rfl,rfl⟩,rfl⟩;exact⟨rfl,rfl⟩
 unfold bS at h2⊢;generalize (execOp a.eval _).run X.P σ.w=z at*;cases z with
 |ok y w'=>
  cases y<;>simp only at h2⊢ <;>first
   |(obtain⟨v,s,FO,l',h1,h2⟩:=h2;exact⟨v,s,FO,l',hp _ _ h1,h2⟩)
   |exact h2.mono λe JH ⟨u,he,v,s,FO,l',h1,h2⟩=>⟨u,he,v,s,FO,l',hp _ _ h1,h2⟩
   |exact h2
 |halt y w'=>exact h2
theorem kL{f:Nat}{args:List Operand}{Gj:Array Nat}{ms:List M}{r:M}[hf:bp X.P f](h:CT X.P f ms H λr' h'=>r'=r/\h'=H)(hn:Nat.blt d X.n=true)(ha:cE sl args=some ms)
  (k:TF X ops rest ⟨(d,.m r)::sl,bx,H⟩ λes zz=>FQ (⟨some d,.m r,[],[],none,true,none⟩::es) zz):TF X ops (⟨some d,.call ⟨.value (.func f),args.toArray,Gj⟩,ty,pos,af,none⟩::rest) ⟨sl,bx,H⟩ FQ:=by
 refine TF.cons (e:=⟨some d,.m r,[],[],none,true,none⟩) (bK.quiet rfl rfl (aQ hn) λFE ag=>?_) rfl k;have FN:=ag.H rfl;simp only at FN;have h1:=pD (X:=X) (st:=FE) (dst:=some d) (ty:=ty) (pos:=pos) (af:=af) (g:=none) (Gj:=Gj) (args:=args) (f:=f) (ms:=ms) (post:= λr' h'=>r'=r/\h'=H) (by rw[ag.cE (λx hx=>by simp[Op.operands,Call.operands];exact .inr hx),oI];exact ha) (by rw[FN];exact h);intro a σ FC hi;have h2:=h1 a σ FC hi;have hp:∀v s,(∃r0 h0,v=V.m r0/\(r0=r/\h0=H)/\s=(⟨FE.sl,FE.bx,h0⟩:St))->bt (.m r) FE v s:=by rintro v s ⟨r0,h0,rfl,⟨rfl,rfl⟩,rfl⟩;exact⟨rfl,by rw[<-FN]⟩
 unfold bS at h2⊢;generalize (execOp a.eval _).run X.P σ.w=z at*;cases z with
 |ok y w'=>
  cases y<;>simp only at h2⊢ <;>first
   |(obtain⟨v,s,FO,l',h1,h2⟩:=h2;exact⟨v,s,FO,l',hp _ _ h1,h2⟩)
   |exact h2.mono λe JH ⟨u,he,v,s,FO,l',h1,h2⟩=>⟨u,he,v,s,FO,l',hp _ _ h1,h2⟩
   |exact h2
 |halt y w'=>exact h2
end rules
def mK:List (List D)->Option (List Int)
 |[]=>some []
 |[.int .u8 n]::r=>match mK r with
  |some ns=>some (n::ns)
  |none=>none
 |_=>none
theorem sy:∀{rows:List (List D)} {ns:List Int},mK rows=some ns->rows=ns.map λn=>[.int .u8 n]
 |[],ns,h=>by simp[mK]at h;subst h;rfl
 |r::rs,ns,h=>by
  unfold mK at h;split at h
  ·rename_i e;cases e
  ·rename_i n r' e;injection e with e1 e2;subst e1;subst e2
   split at h
   ·rename_i Uf hn;injection h with h;subst h
    simp[sy hn]
   ·cases h
  ·cases h
section ops
variable{X:bq}{st:St}{dst:Option Nat}{ty:Nat}{pos:String}{af:Array Edge}{g:Option (Nat×Bool)}
end ops
section rules
variable{X:bq}{ops:Array Oper}{rest:List Oper}{post:St->Prop}{FQ:List Ef->St->Prop}{sl:List (Nat×V)}{bx:List (Nat×List M)}{H:Hp}{d ty:Nat}{pos:String}{af:Array Edge}
def dV(H:Hp):M->Option D
 |.d x=>some x
 |.bB i FD len=>match H[i]? with
  |some (.row true ec v cs)=>bif (Nat.beq v FD&&Nat.blt 0 len)then(match chunk ec len cs with
   |some rows=>some (.sl rows)
   |none=>none)else none
  |_=>none
 |_=>none
theorem RM.view{σ:Sg}{Oo:Nat->Nat->Prop}(hi:cY σ Oo){m:M}{d:D}{v:Value}(h:RM σ m v)(hv:dV σ.H m=some d):RM σ (.d d) v:=by
 cases h with
 |d h=>simp[dV]at hv;subst hv;exact .d h
 |bB i FD len ad cap hle Gp=>
  simp only[dV]at hv;split at hv
  ·rename_i ec v cs G3;cases hb:(Nat.beq v FD&&Nat.blt 0 len)with
   |false=>simp[hb]at hv
   |true=>
    simp only[hb,cond_true]at hv;simp only[Bool.and_eq_true]at hb;have e0:=Nat.eq_of_beq_eq_true hb.1;subst e0;have h0:=aQ hb.2;split at hv
    ·rename_i rows hc;injection hv with hv;subst hv
     obtain⟨e1,e2,arr,T,e3,e4⟩:=Gp true ec cs G3;subst e1;obtain⟨GB,Ku,T1,Ld,n1,h3,h4,h5,⟨h6,FZ⟩,h7⟩:=hi.obj i _ G3;rw[e3]at h3;injection h3 with h3;injection h3 with e5 e6;subst e5;subst e6
     have Gw:Ld=cap:=Nat.eq_of_mul_eq_mul_right GB (by rw[<-h4,<-e4]);subst Gw;have Iv:n1=len:=Nat.eq_of_mul_eq_mul_right GB (by rw[<-h6,<-e2]);subst Iv;obtain⟨k1,k2,k3⟩:=iU hc e2;have FV:rows≠[]:=by rintro rfl;simp at k1;omega
     have J2:∀o,o<cs.length->¬σ.O (σ.l i) o:=by
      intro o ho hO;rcases(hi.own _ _).1 hO with h8|⟨k,ob,h8,h9,H5⟩
      ·exact hi.sep i _ G3 trivial o h8
      ·have:=hi.inj k i ob _ h8 G3 (Ob.iJ H5) trivial h9;subst this;rw[G3]at h8;injection h8 with h8;subst h8
       simp only[Ob.e_]at H5;rcases H5 with H5|H5
       ·cases H5
       ·omega
     have hbound:∀i j,i<rows.length->j<ec->i*ec+j<cs.length:=by
      intro i j hi hj;rw[e2,<-k1]
      calc i*ec+j<i*ec+ec:=by omega
       _=(i+1)*ec:=by rw[Nat.succ_mul]
       _<=rows.length*ec:=Nat.mul_le_mul_right _ hi
     have Gd:cs.length<=arr.size:=by rw[e2,e4];exact Nat.mul_le_mul_right _ h5
     have J3:∀i j,i<rows.length->j<ec->∃r d,rows[i]?=some r/\r[j]?=some d/\cs[i*ec+j]?=some (.d d):=by
      intro i j hi hj;have hr:rows[i].length=ec:=k2 _ (List.getElem_mem hi);have g1:rows[i]?=some rows[i]:=by simp[hi]
      have g2:rows[i][j]?=some ((rows[i])[j]'(by rw[hr];exact hj)):=by simp[hr,hj]
      exact⟨rows[i],_,g1,g2,k3 i j _ _ g1 g2⟩
     have:=dI.sl (O:=σ.O) (w:=σ.w) rows (σ.l i) 0 Ld ec (λi j=>arr.getD (i*ec+j) Go.undef) FV (by omega) (by omega) k2 ?_ ?_ ?_
     ·rw[k1]at this;exact .d this
     ·intro i' j FL hj;rw[Nat.zero_add];refine⟨?_,J2 _ (hbound i' j FL hj)⟩;have:=hbound i' j FL hj;simp[cB,World.cell?,e3,show i'*ec+j<arr.size by omega]
     ·intro i' j FL hj;obtain⟨r,d,_,_,Kk⟩:=J3 i' j FL hj;have FJ:=hbound i' j FL hj;exact(h7 _ _ (arr.getD (i'*ec+j) Go.undef) Kk (by simp[show i'*ec+j<arr.size by omega])).2
     ·intro i' j r d hr hd;have Kk:=k3 i' j r d hr hd;have FJ:i'*ec+j<cs.length:=by rcases Nat.lt_or_ge (i'*ec+j) cs.length with h|h;exact h;simp[List.getElem?_eq_none h]at Kk
      have:=(h7 _ _ (arr.getD (i'*ec+j) Go.undef) Kk (by simp[show i'*ec+j<arr.size by omega])).1;cases this with
      |d h=>exact h
    ·cases hv
  ·cases hv
 |_=>simp[dV]at hv
def c_(H:Hp):List M->Option (List M)
 |[]=>some []
 |m::r=>match dV H m,c_ H r with
  |some d,some ms=>some (.d d::ms)
  |_,_=>none
theorem eN.view{σ:Sg}{Oo:Nat->Nat->Prop}(hi:cY σ Oo){cs FG:List M}{vs:Array Value}(h:eN σ cs vs)(hv:c_ σ.H cs=some FG):eN σ FG vs:=by
 have key:∀(cs FG:List M),c_ σ.H cs=some FG->FG.length=cs.length/\∀(i:Nat) m',FG[i]?=some m'->∃m d,cs[i]?=some m/\dV σ.H m=some d/\m'=.d d:=by
  intro cs
  induction cs with
  |nil=>intro FG h;simp[c_]at h;subst h;simp
  |cons m r ih=>
   intro FG h;simp only[c_]at h;split at h
   ·rename_i d ms h1 h2;injection h with h;subst h
    obtain⟨h3,h4⟩:=ih ms h2;refine⟨by simp[h3],λi m' hm=>?_⟩;cases i with
    |zero=>simp at hm;subst hm;exact⟨m,d,by simp,h1,rfl⟩
    |succ i=>simp at hm;obtain⟨a,b,c,e,f⟩:=h4 i m' hm;exact⟨a,b,by simpa using c,e,f⟩
   ·cases h
 obtain⟨h1,h2⟩:=key cs FG hv;refine⟨by rw[h.1,h1],λi m' v hm Ho=>?_⟩;obtain⟨m,d,h3,h4,rfl⟩:=h2 i m' hm;exact⟨(h.2 i m v h3 Ho).1.view hi h4,(h.2 i m v h3 Ho).2⟩
theorem Inv.eK{a:Act}{w:World}{t:Nat}{cs FG:List M}(h:Inv X ⟨sl,bx,H⟩ a w)(hb:get bx t=some cs)(hv:c_ H cs=some FG):Inv X ⟨sl,(t,FG)::bx,H⟩ a w:=by
 obtain⟨σ,FC,rfl,hi⟩:=h;have hH:σ.H=H:=hi.hH;obtain⟨arr,T,h1,h2⟩:=hi.box t cs hb;have HQ:∀u ds,get ((t,FG)::bx) u=some ds->∃I4,get bx u=some I4:=by
  intro u ds h1;rcases bf h1 with⟨rfl,rfl⟩|⟨h3,h4⟩
  ·exact⟨cs,hb⟩
  ·exact⟨ds,h4⟩
 have Iy:∀b o,iT X.fa FC ((t,FG)::bx) b o↔iT X.fa FC bx b o:=by
  intro b o;constructor
  ·rintro(h1|⟨u,ds,h1,h2⟩)
   ·exact .inl h1
   ·obtain⟨I4,h3⟩:=HQ u ds h1;exact .inr ⟨u,I4,h3,h2⟩
  ·rintro(h1|⟨u,ds,h1,h2⟩)
   ·exact .inl h1
   ·by_cases e:t=u
    ·subst e;exact .inr ⟨t,FG,by simp[aX],h2⟩
    ·exact .inr ⟨u,ds,by simp[aX,e,h1],h2⟩
 refine⟨σ,FC,rfl,hi.hH,hi.defers,hi.size,hi.slot,?_,?_,?_,?_,?_,hi.mono,hi.be⟩
 ·intro u ds h3;rcases bf h3 with⟨rfl,rfl⟩|⟨_,h4⟩
  ·exact⟨arr,T,h1,h2.view hi.hinv (by rw[hH];exact hv)⟩
  ·exact hi.box u ds h4
 ·intro u v ds es h3 h4 h5;obtain⟨_,h6⟩:=HQ u ds h3;obtain⟨_,h7⟩:=HQ v es h4;exact hi.jC u v _ _ h6 h7 h5
 ·intro u ds h3;obtain⟨_,h6⟩:=HQ u ds h3;exact hi.j5 u _ h6
 ·intro u ds h3;obtain⟨_,h6⟩:=HQ u ds h3;exact hi.j6 u _ h6
 ·exact⟨hi.hinv.obj,hi.hinv.inj,λb o=>by rw[Iy];exact hi.hinv.own b o,λi ob h1 h2 o h3=>hi.hinv.sep i ob h1 h2 o ((Iy _ _).1 h3),λb o h3=>hi.hinv.fj b o ((Iy _ _).1 h3)⟩
theorem Inv.bC{a:Act}{w:World}{t:Nat}{m:M}{x:D}(h:Inv X ⟨sl,bx,H⟩ a w)(hb:get sl t=some (.m m))(hv:dV H m=some x):Inv X ⟨(t,.m (.d x))::sl,bx,H⟩ a w:=by
 obtain⟨σ,FC,rfl,hi⟩:=h;have hH:σ.H=H:=hi.hH;refine⟨σ,FC,rfl,hi.hH,hi.defers,hi.size,?_,hi.box,hi.jC,hi.j5,hi.j6,hi.hinv,hi.mono,hi.be⟩;intro u v h3;rcases bf h3 with⟨rfl,rfl⟩|⟨_,h4⟩
 ·obtain⟨z,h5,h6⟩:=hi.slot u _ hb;cases h6 with
  |m h6=>exact⟨z,h5,.m (h6.view hi.hinv (by rw[hH];exact hv))⟩
 ·exact hi.slot u v h4
theorem TL.bC(t:Nat){l:List Oper}{m:M}{x:D}(hb:get sl t=some (.m m))(hv:dV H m=some x)(k:TL X ops l ⟨(t,.m (.d x))::sl,bx,H⟩ post):TL X ops l ⟨sl,bx,H⟩ post:=
 λa w hi=>k a w (hi.bC hb hv)
theorem TC.bC(t:Nat){c:Code}{q:Exit->St->Prop}{m:M}{x:D}(hb:get sl t=some (.m m))(hv:dV H m=some x)(k:TC X c ⟨(t,.m (.d x))::sl,bx,H⟩ q):TC X c ⟨sl,bx,H⟩ q:=
 λa w hi=>k a w (hi.bC hb hv)
end rules
def Acc(n i:Nat)(rs:List (List D))(m:M)(H:Hp):Prop:=
 (rs=[]/\m=.d (.sl []))\/(rs≠[]/\∃FD,m=.bB i FD rs.length/\H[i]?=some (.row true n FD (br rs)))
theorem Acc.view{n i:Nat}{rs:List (List D)}{m:M}{H:Hp}(h:Acc n i rs m H)(hl:∀r∈rs,r.length=n):dV H m=some (.sl rs):=by
 rcases h with⟨rfl,rfl⟩|⟨h0,FD,rfl,h1⟩
 ·rfl
 ·have hp:Nat.blt 0 rs.length=true:=by rw[Nat.blt_eq];cases rs;exact absurd rfl h0;simp
  have hc:chunk n rs.length (br rs)=some rs:=j9 hl;simp[dV,h1,hp,hc]
class ye(P:Program)(t:Nat):Prop where
 u:P.underlying t=some .bool
theorem qM{P:Program}{w:World}{t:Nat}(h:P.underlying t=some .bool)(a b:Bool):(Op.equal t (.bool a) (.bool b)).run P w=.ok (a==b) w:=by
 have F6:(underlying t).run P w=.ok .bool w:=by simp[underlying,program,Sem.run,h]
 simp only[Op.equal,Op.maxDepth];rw[Op.equalIn];simp[F6]
section ops
variable{X:bq}{st:St}{dst:Option Nat}{ty:Nat}{pos:String}{af:Array Edge}{g:Option (Nat×Bool)}
theorem CS{x y:Operand}{xt yt:Nat}{b c:Bool}[ht:ye X.P xt](hx:st.ev x=some (.m (.d (.bool b))))(hy:st.ev y=some (.m (.d (.bool c)))):
  aK X ⟨dst,.binOp .eql xt x y yt,ty,pos,af,g⟩ st (bt (.m (.d (.bool (b==c)))) st):=by
 refine aK.quiet λa σ FC hi=>?_
 exact⟨_,by simp[execOp,hi.j7 hx,hi.j7 hy,eqGuard,binOp,qM ht.u],.m (.d (.bool _))⟩
theorem CU{x y:Operand}{xt yt:Nat}{b c:Bool}[ht:ye X.P xt](hx:st.ev x=some (.m (.d (.bool b))))(hy:st.ev y=some (.m (.d (.bool c)))):
  aK X ⟨dst,.binOp .neq xt x y yt,ty,pos,af,g⟩ st (bt (.m (.d (.bool (!(b==c))))) st):=by
 refine aK.quiet λa σ FC hi=>?_
 exact⟨_,by simp[execOp,hi.j7 hx,hi.j7 hy,eqGuard,binOp,qM ht.u],.m (.d (.bool _))⟩
end ops
section rules
variable{X:bq}{ops:Array Oper}{rest:List Oper}{post:St->Prop}{FQ:List Ef->St->Prop}{sl:List (Nat×V)}{bx:List (Nat×List M)}{H:Hp}{d ty:Nat}{pos:String}{af:Array Edge}
end rules
section ops
variable{X:bq}{st:St}{dst:Option Nat}{ty:Nat}{pos:String}{af:Array Edge}{g:Option (Nat×Bool)}
theorem wG{t e:Nat}{x:Operand}(hx:st.ev x=some (.m (.d (.sl []))))[ht:aL X.P t e]:
  aK X ⟨dst,.call ⟨.builtin .cap,#[x],#[t]⟩,ty,pos,af,g⟩ st (bt (.m (.d (.int .i64 0))) st):=by
 refine aK.quiet λa σ FC hi=>?_
 have h:=hi.ia hx;generalize hu:a.eval x=u at h;refine⟨.int .i64 0,?_,.m (.d (.int _ _))⟩;cases h with
 |slnil a=>simp[execOp,resolve,invoke,builtin,Builtin.cap_,underlying,program,Sem.run,ht.u,hu,goInt]
 |sl rows b o cap ec val h0 Gw FZ GB FW Gf Gx=>exact absurd rfl h0
theorem sA{t e n:Nat}{x y:Operand}{k:IntKind}(hx:st.ev x=some (.m (.d (.sl []))))(hy:st.ev y=some (.m (.d (.int k 0))))[ht:aL X.P t e][hs:bh X.P e n]:
  aK X ⟨dst,.slice t x none (some y) none,ty,pos,af,g⟩ st (bt (.m (.d (.sl []))) st):=by
 refine aK.quiet λa σ FC hi=>?_
 have h:=hi.ia hx;have h2:=hi.cC hy;generalize hu:a.eval x=u at h;cases h with
 |slnil ad=>
  refine⟨.slice ad 0 0,?_,.m (.d (.slnil _))⟩;have F6:∀w:World,(underlying t).run X.P w=.ok (.slice e) w:= λw=>by simp[underlying,program,Sem.run,ht.u]
  simp[execOp,Instr.sliceAt,Instr.slice,F6,hu,h2,Instr.sliceBounds,Instr.sliceBound,asIntOf,bF hs.size]
 |sl rows b o cap ec val h0 Gw FZ GB FW Gf Gx=>exact absurd rfl h0
theorem oO{T e n:Nat}{x y:Operand}[ht:aL X.P T e][hs:bh X.P e n]
  (hx:st.ev x=some (.m (.d (.sl [])))) (hy:st.ev y=some (.m (.d (.sl [])))):
  aK X ⟨dst,.call ⟨.builtin .append,#[x,y],#[T,T]⟩,ty,pos,af,g⟩ st (bt (.m (.d (.sl []))) st):=by
 refine aK.quiet λa σ FC hi=>?_
 have h1:=hi.ia hx;have h2:=hi.ia hy;generalize hu:a.eval x=u at h1;generalize hw:a.eval y=wv at h2;cases h1 with
 |sl rows b o cap ec val h0 Gw FZ GB FW Gf Gx=>exact absurd rfl h0
 |slnil ad=>
  cases h2 with
  |sl rows b o cap ec val h0 Gw FZ GB FW Gf Gx=>exact absurd rfl h0
  |slnil bd=>
   refine⟨.slice ad 0 0,?_,.m (.d (.slnil _))⟩;have F6:∀w:World,(underlying T).run X.P w=.ok (.slice e) w:= λw=>by simp[underlying,program,Sem.run,ht.u]
   have hold:∀w:World,(Builtin.firstCells n 0 (.slice bd 0 0)).run X.P w=.ok #[] w:=by
    intro w;cases bd<;>simp[Builtin.firstCells,loadCells,loadCellsFrom]
   have hlen:∀w:World,(Builtin.lenOf (.slice bd 0 0)).run X.P w=.ok 0 w:=by intro w;simp[Builtin.lenOf]
   simp only[execOp,resolve,invoke,builtin,Builtin.append_];simp only[Sem.run_bind,Sem.run_pure,Result.andThen_ok,List.map_toArray,List.map_cons,List.map_nil,hu,hw];cases ad<;>simp[F6,bF hs.size,hlen,hold,storeCells]
theorem sB{t e n:Nat}{x y:Operand}{k:IntKind}{i:Int}{j FD len:Nat}{cs:List M}(acc:Bool)(hx:st.ev x=some (.m (.bB j FD len)))(hy:st.ev y=some (.m (.d (.int k i))))[ht:aL X.P t e][hs:bh X.P e n]
  (hH:st.H[j]?=some (.row false n FD cs)) (h0:0<=i) (hle:i<=len):
  aK X ⟨dst,.slice t x none (some y) none,ty,pos,af,g⟩ st (bt (.m (.bB j (FD+1) i.toNat)) ⟨st.sl,st.bx,st.H.set j (.row acc n (FD+1) (cs.take (i.toNat*n)))⟩):=by
 intro a σ FC hi;have h1:=hi.ev hx;have h2:=hi.cC hy;have G3:σ.H[j]?=some (.row false n FD cs):=by rw[hi.hH];exact hH
 obtain⟨Gt,arr,TT,Gu,nn,h3,h4,h5,⟨h6,J4⟩,h7⟩:=hi.hinv.obj j _ G3;generalize hu:a.eval x=u at h1;cases h1 with
 |m h1=>cases h1 with
  |bB j FD len ad cap Mq Gp=>
   obtain⟨e1,e2,Ku,T1,e3,e4⟩:=Gp false n cs G3;subst e1;rw[h3]at e3;injection e3 with e3;injection e3 with e5 e6
   subst e5;subst e6;have Gw:Gu=cap:=Nat.eq_of_mul_eq_mul_right Gt (by rw[<-h4,<-e4]);subst Gw;have Iv:nn=len:=Nat.eq_of_mul_eq_mul_right Gt (by rw[<-h6,<-e2]);subst Iv;have IX:i.toNat<=nn:=by omega
   have FX:(cs.take (i.toNat*n)).length=i.toNat*n:=by
    rw[List.length_take,e2];exact Nat.min_eq_left (Nat.mul_le_mul_right _ IX)
   obtain⟨τ,g1,g2,g3,g4,g5⟩:=hi.eU (j:=j) (b':=σ.l j) (ob:=.row false n FD cs) (F_:=.row acc n (FD+1) (cs.take (i.toNat*n))) (w':=σ.w) hH trivial rfl rfl rfl (Nat.le_refl _)
    (λc _ _=>rfl) (.inl rfl) (by
     intro o v ho hc;exact absurd (Or.inl rfl) ho) ⟨rfl,.inl (by omega)⟩ (by
     intro τ hm II _ _;refine⟨Gt,arr,TT,Gu,i.toNat,by rw[II];exact h3,h4,by omega,⟨FX,by omega⟩,?_⟩;intro k m v Ha hv;have hc:cs[k]?=some m:=by
      rw[List.getElem?_take]at Ha;split at Ha
      ·exact Ha
      ·cases Ha
     exact⟨(h7 k m v hc hv).1.mono hm,(h7 k m v hc hv).2⟩)
   refine bS.value (u:=.slice (some ⟨σ.l j,0,none⟩) i.toNat Gu) (w':=τ.w) ?_ ⟨_,_,τ,FC,⟨rfl,rfl⟩,rfl,g5,?_⟩
   ·have F6:∀w:World,(underlying t).run X.P w=.ok (.slice e) w:= λw=>by simp[underlying,program,Sem.run,ht.u]
    have hb:0<=i/\i<=(Gu:Int):=⟨h0,by omega⟩;simp[execOp,Instr.sliceAt,Instr.slice,F6,hu,h2,Instr.sliceBounds,Instr.sliceBound,asIntOf,bF hs.size,hb,fR,g1]
   ·refine .m (.bB j (FD+1) i.toNat _ Gu (.inr ⟨acc,n,FD+1,_,by rw[g3];exact lT hH,Nat.le_refl _⟩) ?_);intro GP J0 F8 hh;rw[g3]at hh;have I7:j<st.H.length:=by rcases Nat.lt_or_ge j st.H.length with h|h;exact h;simp[List.getElem?_eq_none h]at hH
    simp[I7]at hh;obtain⟨f1,f2,f3⟩:=hh;subst f1;subst f2;subst f3;exact⟨by rw[g2],FX,_,TT,by rw[g2,g1];exact h3,h4⟩
theorem oP{z:Array Value}{n:Nat}(hz:0<z.size)(h:∀(i:Nat) (v:Value),z[i]?=some v->flat v=true)(i:Nat)(v:Value)(hv:(Builtin.zeroCells z n)[i]?=some v):flat v=true:=by
 have hi:i<n*z.size:=by
  rcases Nat.lt_or_ge i (n*z.size)with h1|h1
  ·exact h1
  ·rw[Array.getElem?_eq_none (by rw[fl];exact h1)]at hv;cases hv
 have hm:i%z.size<z.size:=Nat.mod_lt _ hz;simp[Builtin.zeroCells,hi,hm]at hv;exact h (i%z.size) v (by simp[hm,hv])
theorem wH{T U e n nb len:Nat}{x y:Operand}{k:IntKind}{z:D}[ht:aL X.P T e][hu:jK X.P U k][hs:bh X.P e n][hb:gp X.P e nb][hz:dt X.P e z](hn:Nat.blt 0 n=true)(Ga:(aN z).length=n)
  (hx:st.ev x=some (.m (.d (.sl [])))) (hy:st.ev y=some (.m (.d (.int k len)))) (hl:0<len) (Gh:len*nb<=140737488355328) (FZ:len<=140737488355328):
  aK X ⟨dst,.call ⟨.builtin .append,#[x,y],#[T,U]⟩,ty,pos,af,g⟩ st (bt (.m (.bB st.H.length 0 len)) ⟨st.sl,st.bx,st.H++[.row false n 0 (List.replicate (len*n) .undef)]⟩):=by
 intro a σ FC hi;have Gt:=aQ hn;have h1:=hi.ia hx;have h2:=hi.cC hy;obtain⟨inf,i1,i2,i3⟩:=io hs.size hb.bytes;obtain⟨zv,GK,GO⟩:=(bA hz.zero).run;have HA:eN σ ((aN z).map .d) zv.cells:=(RM.d (bW GO):RM σ (.d z) zv).cells rfl;have Kl:zv.cells.size=n:=by rw[HA.1];simpa using Ga
 have MD:∀(i:Nat) (v:Value),zv.cells[i]?=some v->flat v=true:=by
  intro i v hv;have FL:i<zv.cells.size:=by rcases Nat.lt_or_ge i zv.cells.size with h|h;exact h;simp[Array.getElem?_eq_none h]at hv
  have hd:i<(aN z).length:=by omega
  exact(HA.2 i (.d (aN z)[i]) v (by simp[hd]) hv).2
 generalize NB:a.eval x=u at h1;cases h1 with
 |sl rows b o cap ec val h0 Gw FZ GB FW Gf Gx=>exact absurd rfl h0
 |slnil ad=>
  let cap:=len+σ.w.tape σ.w.drawn (.appendCap len 0 e)%(2^63-len)
  let arr:=Builtin.zeroCells zv.cells len++Builtin.zeroCells zv.cells (cap-len)
  have Gw:len<=cap:=Nat.le_add_right _ _;have HR:arr.size=cap*n:=by
   simp only[arr,Array.size_append,fl,Kl];rw[<-Nat.add_mul];congr 1;omega
  have hd:bb X {σ with w:=σ.w.drew} FC st a:=hi.ext (dq.drew _);have IW:bO σ {σ with w:=σ.w.drew} :=bO.ext (dq.drew _);have IV:(List.replicate (len*n) M.undef).length=len*n:=by simp
  obtain⟨τ,g1,g2,g3,g4,g5⟩:=hd.newObj (.row false n 0 (List.replicate (len*n) .undef)) (.cells arr e (0,0)) (by
   intro τ hm hw;refine⟨Gt,arr,e,cap,len,by rw[hw];exact dx _ _,HR,Gw,⟨IV,FZ⟩,?_⟩;intro k m v Ha hv;have Lv:m=.undef:=by
    rw[List.getElem?_replicate]at Ha;split at Ha
    ·injection Ha with h;exact h.symm
    ·cases Ha
   subst Lv;refine⟨.undef _,?_⟩;simp only[arr,Array.getElem?_append]at hv;split at hv
   ·exact oP (by omega) MD _ _ hv
   ·exact oP (by omega) MD _ _ hv)
  refine bS.value (u:=.slice (some ⟨σ.w.heap.size,0,none⟩) len cap) (w':=τ.w) ?_ ⟨_,_,τ,FC,⟨rfl,rfl⟩,rfl,g5,?_⟩
  ·have Jm:∀w:World,(typeInfo e).run X.P w=.ok inf w:= λw=>by simp[typeInfo,program,Sem.run,i1]
   have F6:∀w:World,(underlying T).run X.P w=.ok (.slice e) w:= λw=>by simp[underlying,program,Sem.run,ht.u]
   have LC:∀w:World,(underlying U).run X.P w=.ok (.int k) w:= λw=>by simp[underlying,program,Sem.run,hu.u]
   have I8:IntKind.i64.wrap (len:Int)=len:=IntWalk.i64_in _ ⟨by omega,by omega⟩;have Lb:¬((len:Int)*(inf.bytes:Int)>2^48):=by
    rw[i3];have:((len*nb:Nat):Int)<=140737488355328:=by omega
    rw[Int.natCast_mul]at this;omega
   have LD:¬(281474976710656<(len:Int)*(inf.bytes:Int)):=by omega
   have I9:¬((len:Int)<0):=by omega
   have c1:¬len=0:=by omega
   have c2:¬(9223372036854775807<((len:Nat):Int)):=by omega
   have c3:¬(281474976710656<Builtin.nextslicecap len 0*inf.bytes):=by
    rw[i3];have h1:=ke (ef:=len) (cap:=0) (by omega);have:=Nat.mul_le_mul_right nb h1;rw[Nat.mul_assoc]at this;omega
   have c4:¬len*n=0:=by
    intro h;rcases Nat.mul_eq_zero.1 h with h|h<;>omega
   have hold:(Builtin.firstCells n 0 (.slice ad 0 0)).run X.P σ.w.drew=.ok #[] σ.w.drew:=by
    cases ad<;>simp[Builtin.firstCells,loadCells,loadCellsFrom]
   have J5:(Question.appendCap len 0 e).cut (σ.w.tape σ.w.drawn (Question.appendCap len 0 e))=cap:=rfl;have H6:(Question.appendCap len 0 e).forced=false:=rfl;simp only[execOp,resolve,invoke,builtin,Builtin.append_];simp only[Sem.run_bind,Sem.run_pure,Result.andThen_ok,List.map_toArray,List.map_cons,List.map_nil,NB,h2];simp[F6,LC,Jm,bF hs.size,asInt,asIntOf,I8,LD,I9,c1,c2,c3,c4];simp only[H6,if_false,Bool.false_eq_true];rw[hold];simp only[Result.andThen_ok,GK,J5];simp[newRow,newObj,Sem.run,g1,arr]
  ·have L3:σ.H.length=st.H.length:=by rw[hi.hH]
   have Jn:τ.l st.H.length=σ.w.heap.size:=by rw[<-L3];exact g2
   refine .m (.bB _ 0 len _ cap (.inr ⟨false,n,0,List.replicate (len*n) .undef,by rw[g3];simp,Nat.le_refl _⟩) ?_);intro GP J0 FG hh;rw[g3]at hh;simp at hh;obtain⟨e1,e2,e3⟩:=hh;subst e1;subst e2;subst e3;exact⟨by rw[Jn],IV,arr,e,by rw[Jn,g1];exact dx _ _,HR⟩
end ops
section walk
variable{X:bq}{ops:Array Oper}{rest:List Oper}{post:St->Prop}{sl:List (Nat×V)}{bx:List (Nat×List M)}{H:Hp}{d:Nat}{ty:Nat}{pos:String}{af:Array Edge}
theorem mL{t e:Nat}{x:Operand}[ht:aL X.P t e](hn:Nat.blt d X.n=true)(hx:ba sl x=some (.m (.d (.sl []))))(k:TL X ops rest ⟨(d,.m (.d (.int .i64 0)))::sl,bx,H⟩ post):
  TL X ops (⟨some d,.call ⟨.builtin .cap,#[x],#[t]⟩,ty,pos,af,none⟩::rest) ⟨sl,bx,H⟩ post:=TL.o1 rfl rfl hn (wG hx) k
theorem pM{t e n:Nat}{x y:Operand}{kk:IntKind}[ht:aL X.P t e][hs:bh X.P e n](hn:Nat.blt d X.n=true)(hx:ba sl x=some (.m (.d (.sl []))))(hy:ba sl y=some (.m (.d (.int kk 0))))(k:TL X ops rest ⟨(d,.m (.d (.sl [])))::sl,bx,H⟩ post):
  TL X ops (⟨some d,.slice t x none (some y) none,ty,pos,af,none⟩::rest) ⟨sl,bx,H⟩ post:=TL.o1 rfl rfl hn (sA hx hy) k
theorem dC{T e n:Nat}{x y:Operand}[ht:aL X.P T e][hs:bh X.P e n](hn:Nat.blt d X.n=true)(hx:ba sl x=some (.m (.d (.sl []))))(hy:ba sl y=some (.m (.d (.sl []))))(k:TL X ops rest ⟨(d,.m (.d (.sl [])))::sl,bx,H⟩ post):
  TL X ops (⟨some d,.call ⟨.builtin .append,#[x,y],#[T,T]⟩,ty,pos,af,none⟩::rest) ⟨sl,bx,H⟩ post:=TL.o1 rfl rfl hn (oO hx hy) k
theorem pN{t e n:Nat}{x y:Operand}{kk:IntKind}{i:Int}{j FD len:Nat}{cs:List M}(acc:Bool)[ht:aL X.P t e][hs:bh X.P e n](hn:Nat.blt d X.n=true)(hx:ba sl x=some (.m (.bB j FD len)))(hy:ba sl y=some (.m (.d (.int kk i))))
  (hH:H[j]?=some (.row false n FD cs)) (h0:0<=i) (hle:i<=len) (k:TL X ops rest ⟨(d,.m (.bB j (FD+1) i.toNat))::sl,bx,H.set j (.row acc n (FD+1) (cs.take (i.toNat*n)))⟩ post):
  TL X ops (⟨some d,.slice t x none (some y) none,ty,pos,af,none⟩::rest) ⟨sl,bx,H⟩ post:=TL.o1 rfl rfl hn (sB acc hx hy hH h0 hle) k
theorem nU{T U e n nb len:Nat}{x y:Operand}{kk:IntKind}{z:D}[ht:aL X.P T e][hu:jK X.P U kk][hs:bh X.P e n][hb:gp X.P e nb][hz:dt X.P e z](hn:Nat.blt d X.n=true)(hx:ba sl x=some (.m (.d (.sl []))))(hy:ba sl y=some (.m (.d (.int kk len))))
  (h0:Nat.blt 0 n=true) (Ga:(aN z).length=n) (hl:0<len) (Gh:len*nb<=140737488355328) (FZ:len<=140737488355328) (k:TL X ops rest ⟨(d,.m (.bB H.length 0 len))::sl,bx,H++[.row false n 0 (List.replicate (len*n) .undef)]⟩ post):
  TL X ops (⟨some d,.call ⟨.builtin .append,#[x,y],#[T,U]⟩,ty,pos,af,none⟩::rest) ⟨sl,bx,H⟩ post:=TL.o1 rfl rfl hn (wH h0 Ga hx hy hl Gh FZ) k
end walk
inductive MB(n:Nat):M->Prop where
 |d (x:D):MB n (.d x)
 |ref (i off:Nat) (h:i<n):MB n (.ref i off)
 |bB (i FD len:Nat) (h:i<n):MB n (.bB i FD len)
 |bG (i FD off:Nat) (h:i<n):MB n (.bG i FD off)
 |mp (i:Nat) (h:i<n):MB n (.mp i)
 |it (i:Nat) (h:i<n):MB n (.it i)
 |agg (cs:List M) (h:∀m∈cs,MB n m):MB n (.agg cs)
 |fn (f:Nat) (cs:List M) (h:∀m∈cs,MB n m):MB n (.fn f cs)
 |bz (cs:List M) (h:∀m∈cs,MB n m):MB n (.bz cs)
 |undef:MB n .undef
def vt(n:Nat):Ob->Prop
 |.box cs=>∀m∈cs,MB n m
 |.row _ _ _ cs=>∀m∈cs,MB n m
 |.map es=>∀e∈es,MB n e.2
 |.iter x=>MB n x
 |.dead=>True
 |.free=>True
def HB(n:Nat)(H:Hp):Prop:=∀ob∈H,vt n ob
mutual
def gK(ρ:Nat->Nat):M->M
 |.d x=>.d x
 |.ref i off=>.ref (ρ i) off
 |.bB i FD len=>.bB (ρ i) FD len
 |.bG i FD off=>.bG (ρ i) FD off
 |.mp i=>.mp (ρ i)
 |.it i=>.it (ρ i)
 |.agg cs=>.agg (iq ρ cs)
 |.fn f cs=>.fn f (iq ρ cs)
 |.bz cs=>.bz (iq ρ cs)
 |.undef=>.undef
def iq(ρ:Nat->Nat):List M->List M
 |[]=>[]
 |m::r=>gK ρ m::iq ρ r
end
theorem sC(ρ:Nat->Nat)(l:List M):iq ρ l=l.map (gK ρ):=by induction l with
 |nil=>rfl
 |cons a r ih=>simp[iq,ih]
theorem sD(ρ:Nat->Nat)(l:List M)(i:Nat):(iq ρ l)[i]?=(l[i]?).map (gK ρ):=by rw[sC];simp
theorem ng(ρ:Nat->Nat)(l:List M):(iq ρ l).length=l.length:=by rw[sC];simp
def nW(ρ:Nat->Nat):Ob->Ob
 |.box cs=>.box (iq ρ cs)
 |.row acc ec FD cs=>.row acc ec FD (iq ρ cs)
 |.map es=>.map (es.map λe=>(e.1,gK ρ e.2))
 |.iter x=>.iter (gK ρ x)
 |.dead=>.dead
 |.free=>.free
structure D2(ρ:Nat->Nat)(n:Nat)(σ τ:Sg):Prop where
 w:σ.w=τ.w
 O:∀b o,¬τ.O b o->¬σ.O b o
 has:∀i:Nat,i<n->∃ob,σ.H[i]?=some ob
 ob:∀(i:Nat) ob,σ.H[i]?=some ob->τ.H[ρ i]?=some (nW ρ ob)
 l:∀(i:Nat) ob,σ.H[i]?=some ob->τ.l (ρ i)=σ.l i
theorem eE.down{ρ:Nat->Nat}{n:Nat}{σ τ:Sg}(hw:σ.w=τ.w)(hr:∀m v,MB n m->RM τ (gK ρ m) v->RM σ m v){b:Nat}{ob:Ob}(hb:vt n ob)(h:eE τ b (nW ρ ob)):eE σ b ob:=by
 cases ob with
 |box cs=>
  obtain⟨arr,T,h1,h2,h3⟩:=h;refine⟨arr,T,by rw[hw];exact h1,by rw[ng]at h2;exact h2,λi m v hm hv=>?_⟩;have h4:=h3 i (gK ρ m) v (by rw[sD,hm];rfl) hv;exact⟨hr _ _ (hb m (List.mem_of_getElem? hm)) h4.1,h4.2⟩
 |row acc ec FD cs=>
  obtain⟨h0,arr,T,cap,k,h1,h2,h3,⟨h4,h5⟩,h6⟩:=h;refine⟨h0,arr,T,cap,k,by rw[hw];exact h1,h2,h3,⟨by rw[ng]at h4;exact h4,h5⟩,λi m v hm hv=>?_⟩;have h7:=h6 i (gK ρ m) v (by rw[sD,hm];rfl) hv;exact⟨hr _ _ (hb m (List.mem_of_getElem? hm)) h7.1,h7.2⟩
 |map es=>
  obtain⟨JU,Gr,FK,c,h1,h2,h3,Iu⟩:=h;obtain⟨FT,N1,rfl⟩:=Gr.DY;refine⟨FT,N1,FK,c,by rw[hw];exact h1,by simpa using h2,λi e u he hu=>?_,Iu⟩;have h4:=h3 i (e.1,gK ρ e.2) u (by rw[List.getElem?_map,he];rfl) hu;exact h4.up λv hv=>hr _ _ (hb e (N1.mem.1 (List.mem_of_getElem? he))) hv
 |iter x=>
  rcases h with⟨om,s,se,l,h1,h2⟩|⟨m,T,h1,h2⟩
  ·exact .inl ⟨om,s,se,l,by rw[hw];exact h1,h2.imp (λh=>⟨h.1,hr _ _ hb h.2⟩) λh=>⟨hr _ _ hb h.1,h.2⟩⟩
  ·exact .inr ⟨m,T,by rw[hw];exact h1,hr _ _ hb h2⟩
 |dead=>trivial
 |free=>trivial
theorem iu{H:Hp}{i:Nat}{ob:Ob}(h:H[i]?=some ob):i<H.length:=by
 rcases Nat.lt_or_ge i H.length with h1|h1
 ·exact h1
 ·simp[List.getElem?_eq_none h1]at h
mutual
def tW(n:Nat):M->Bool
 |.d _=>true
 |.ref i _=>Nat.blt i n
 |.bB i _ _=>Nat.blt i n
 |.bG i _ _=>Nat.blt i n
 |.mp i=>Nat.blt i n
 |.it i=>Nat.blt i n
 |.agg cs=>qN n cs
 |.fn _ cs=>qN n cs
 |.bz cs=>qN n cs
 |.undef=>true
def qN(n:Nat):List M->Bool
 |[]=>true
 |m::r=>tW n m&&qN n r
end
mutual
theorem oQ{n:Nat} :∀{m:M},tW n m=true->MB n m
 |.d x,_=>.d x
 |.ref i off,h=>.ref i off (aQ h)
 |.bB i v l,h=>.bB i v l (aQ h)
 |.bG i v l,h=>.bG i v l (aQ h)
 |.mp i,h=>.mp i (aQ h)
 |.it i,h=>.it i (aQ h)
 |.agg cs,h=>.agg cs (kM (by simpa [tW] using h))
 |.fn f cs,h=>.fn f cs (kM (by simpa [tW] using h))
 |.bz cs,h=>.bz cs (kM (by simpa [tW] using h))
 |.undef,_=>.undef
theorem kM{n:Nat} :∀{l:List M},qN n l=true->∀m∈l,MB n m
 |[],_=>by simp
 |a::r,h=>by
  rw[qN,Bool.and_eq_true]at h;intro m hm;rcases List.mem_cons.1 hm with e|hm
  ·rw[e];exact oQ h.1
  ·exact kM h.2 m hm
end
def CV(n:Nat):Ob->Bool
 |.box cs=>qN n cs
 |.row _ _ _ cs=>qN n cs
 |.map es=>es.all λe=>tW n e.2
 |.iter x=>tW n x
 |.dead=>true
 |.free=>true
theorem rM{n:Nat}{ob:Ob}(h:CV n ob=true):vt n ob:=by
 cases ob with
 |box cs=>exact kM h
 |row a e v cs=>exact kM h
 |map es=>intro e he;exact oQ (List.all_eq_true.1 h e he)
 |iter x=>exact oQ h
 |dead=>trivial
 |free=>trivial
theorem CW{n:Nat}{H:Hp}(h:H.all (CV n)=true):HB n H:= λob HM=>rM (List.all_eq_true.1 h ob HM)
mutual
theorem oR:∀m:M,gK (λi=>i) m=m
 |.d x=>by rw[gK]
 |.ref i off=>by rw[gK]
 |.bB i v l=>by rw[gK]
 |.bG i v l=>by rw[gK]
 |.mp i=>by rw[gK]
 |.it i=>by rw[gK]
 |.agg cs=>by rw[gK,jr cs]
 |.fn f cs=>by rw[gK,jr cs]
 |.bz cs=>by rw[gK,jr cs]
 |.undef=>by rw[gK]
theorem jr:∀l:List M,iq (λi=>i) l=l
 |[]=>by rw[iq]
 |m::r=>by rw[iq,oR m,jr r]
end
theorem Av(ob:Ob):nW (λi=>i) ob=ob:=by
 cases ob with
 |box cs=>simp[nW,jr]
 |row a e v cs=>simp[nW,jr]
 |map es=>simp[nW,oR]
 |iter x=>simp[nW,oR]
 |dead=>rfl
 |free=>rfl
theorem CT.drop{P:Program}{f:Nat}{ms:List M}{H:Hp}{post:M->Hp->Prop}(n:Nat)(hn:H.length<=n)
  (h:CT P f ms H λr k=>n<=k.length/\MB n r/\HB n (k.take n)/\post r (k.take n)):CT P f ms H post:=by
 intro σ Oo vs hinv hH GR;refine(h σ Oo vs hinv hH GR).mono ?_;rintro e w' ⟨v,r,FO,he,II,⟨Ic,hr,hB,hp⟩,Hn,IY,FY,Hf⟩
 let τ:Sg:=⟨FO.w,λb o=>Oo b o\/∃(i:Nat) (ob:Ob),(FO.H.take n)[i]?=some ob/\FO.l i=b/\ob.e_ o,FO.l,FO.H.take n⟩
 have Hx:∀(i:Nat) ob,(FO.H.take n)[i]?=some ob->i<n/\FO.H[i]?=some ob:=by
  intro i ob hi;rw[List.getElem?_take]at hi;split at hi
  ·exact⟨by assumption,hi⟩
  ·cases hi
 have GN:∀(i:Nat) ob,i<n->FO.H[i]?=some ob->(FO.H.take n)[i]?=some ob:=by
  intro i ob hi h;rw[List.getElem?_take,if_pos hi];exact h
 have hO:∀b o,¬FO.O b o->¬τ.O b o:=by
  intro b o h1 h2;apply h1;rw[Hn.own];rcases h2 with h2|⟨i,ob,h2,h3,h4⟩
  ·exact .inl h2
  ·exact .inr ⟨i,ob,(Hx i ob h2).2,h3,h4⟩
 have Rz:D2 (λi=>i) n τ FO->True:= λ_=>trivial
 have PI:∀m v,MB n m->RM FO m v->RM τ m v:=by
  intro m v hm
  induction hm generalizing v with
  |d x=>intro h;cases h with
   |d h=>exact .d (h.mono λb o v h1 h2=>⟨h1,hO b o h2⟩)
  |ref i off hi=>intro h;cases h with
   |ref i off cs h=>exact .ref i off cs (GN i _ hi h)
  |bB i FD len hi=>intro h;cases h with
   |bB i FD len a cap hle Gp=>
    refine .bB i FD len a cap ?_ λacc ec cs h=>Gp acc ec cs (Hx i _ h).2
    rcases hle with h|⟨acc,ec,F5,cs,h,h2⟩
    ·exact .inl (GN i _ hi h)
    ·exact .inr ⟨acc,ec,F5,cs,GN i _ hi h,h2⟩
  |bG i FD off hi=>intro h;cases h with
   |bG i FD off b hle Gp=>
    refine .bG i FD off b ?_ λacc ec cs h=>Gp acc ec cs (Hx i _ h).2
    rcases hle with h|⟨acc,ec,F5,cs,h,h2⟩
    ·exact .inl (GN i _ hi h)
    ·exact .inr ⟨acc,ec,F5,cs,GN i _ hi h,h2⟩
  |mp i hi=>intro h;cases h with
   |mp i es h=>exact .mp i es (GN i _ hi h)
  |it i hi=>intro h;cases h with
   |it i x h=>exact .it i x (GN i _ hi h)
  |agg cs hc ih=>intro h;cases h with
   |agg cs vs hl hf h=>exact .agg cs vs hl hf λi m v h1 h2=>ih m (List.mem_of_getElem? h1) v (h i m v h1 h2)
  |fn f cs hc ih=>intro h;cases h with
   |fn f cs vs FJ hl h=>exact .fn f cs vs FJ hl λi m v h1 h2=>ih m (List.mem_of_getElem? h1) v (h i m v h1 h2)
   |pC f g cs vs hg hl h=>exact .pC f _ cs vs hg hl λi m v h1 h2=>ih m (List.mem_of_getElem? h1) v (h i m v h1 h2)
  |bz cs hc ih=>intro h;cases h with
   |bz cs vs hl h=>exact .bz cs vs hl λi m v h1 h2=>ih m (List.mem_of_getElem? h1) v (h i m v h1 h2)
  |undef=>intro h;exact .undef v
 have PJ:∀(i:Nat) ob,(FO.H.take n)[i]?=some ob->eE τ (FO.l i) ob:=by
  intro i ob hi;have h1:=Hn.obj i ob (Hx i ob hi).2;have h2:=hB ob (List.mem_of_getElem? hi);refine eE.down (σ:=τ) (τ:=FO) (ρ:= λi=>i) (n:=n) rfl (λm v hm hv=>PI m v hm (by rw[oR]at hv;exact hv)) h2 (by rw[Av];exact h1)
 refine⟨v,r,τ,he,II,hp,?_,PI r v hr IY,?_,?_⟩
 ·refine⟨PJ,?_,λb o=>Iff.rfl,?_,Hn.fj⟩
  ·intro i j x y hi hj;exact Hn.inj i j x y (Hx i x hi).2 (Hx j y hj).2
  ·intro i ob hi;exact Hn.sep i ob (Hx i ob hi).2
 ·have FJ:∀(i:Nat) ob,σ.H[i]?=some ob->i<n:=by
   intro i ob hi;rw[hH]at hi;have:=iu hi;omega
  refine⟨?_,?_,?_,?_,?_,?_,λi hi=>let⟨ob,h1⟩:=FY.has i _ hi;⟨ob,GN i _ (FJ i _ hi) h1⟩⟩
  ·intro b o v h1 h2;have h3:=FY.cell b o v h1 h2;exact⟨h3.1,hO b o h3.2⟩
  ·intro i cs hi;obtain⟨⟨FG,h1⟩,h2⟩:=FY.box i cs hi;exact⟨⟨FG,GN i _ (FJ i _ hi) h1⟩,h2⟩
  ·intro i cs hi;obtain⟨⟨FG,h1⟩,h2⟩:=FY.map i cs hi;exact⟨⟨FG,GN i _ (FJ i _ hi) h1⟩,h2⟩
  ·intro i cs hi;obtain⟨⟨FG,h1⟩,h2⟩:=FY.iter i cs hi;exact⟨⟨FG,GN i _ (FJ i _ hi) h1⟩,h2⟩
  ·intro i hi;exact GN i _ (FJ i _ hi) (FY.dead i hi)
  ·intro i acc ec FD cs hi;rcases FY.row i acc ec FD cs hi with h1|⟨GP,F5,FG,h1,h2,h3⟩
   ·exact .inl (GN i _ (FJ i _ hi) h1)
   ·exact .inr ⟨GP,F5,FG,GN i _ (FJ i _ hi) h1,h2,h3⟩
 ·refine⟨Hf.os,Hf.output,Hf.tape,Hf.size,Hf.be,?_⟩;intro i ob hi hl;exact Hf.loc i ob (Hx i ob hi).2 hl
theorem CT.D3{P:Program}{f:Nat}{ds:List D}{post:List D->Prop}{H:Hp}(h:PT P f ds post):CT P f (ds.map .d) H λr k=>(∃d,r=fD (d.map .d)/\post d)/\k=H:=by
 intro σ Oo vs hinv hH GR;refine(h σ.O σ.w vs hinv.wx ⟨by simpa using GR.1,λi d v h1 h2=>?_⟩).mono ?_
 ·have:=GR.2 i (.d d) v (by simp[h1]) h2;cases this with
  |d h=>exact h
 ·rintro e w' ⟨v,r,he,hp,GA,hr⟩;refine⟨v,_,{σ with w:=w'},he,rfl,⟨⟨r,rfl,hp⟩,hH⟩,?_,hr.vm (λb o v h1 h2=>⟨h1,h2⟩),bO.ext GA,?_⟩
  ·exact hinv.ext GA
  ·exact bJ.ext GA
theorem Inv.base{X:bq}{st:St}{a:Act}{w:World}(h:Inv X st a w):X.s0.H.length<=st.H.length:=by
 obtain⟨σ,FC,rfl,hi⟩:=h;have hm:=hi.mono;rw[<-hi.hH];rcases Nat.lt_or_ge σ.H.length X.s0.H.length with h1|h1
 ·exfalso;have hx:X.s0.H[σ.H.length]?=some X.s0.H[σ.H.length]:=by simp[h1]
  have HL:σ.H[σ.H.length]?=none:=by simp
  cases HM:X.s0.H[σ.H.length]with
  |box cs=>rw[HM]at hx;obtain⟨⟨FG,h2⟩,_⟩:=hm.box _ _ hx;rw[HL]at h2;cases h2
  |map cs=>rw[HM]at hx;obtain⟨⟨FG,h2⟩,_⟩:=hm.map _ _ hx;rw[HL]at h2;cases h2
  |iter cs=>rw[HM]at hx;obtain⟨⟨FG,h2⟩,_⟩:=hm.iter _ _ hx;rw[HL]at h2;cases h2
  |dead=>rw[HM]at hx;have h2:=hm.dead _ hx;rw[HL]at h2;cases h2
  |free=>rw[HM]at hx;obtain⟨_,h2⟩:=hm.free _ hx;rw[HL]at h2;cases h2
  |row a e v c=>
   rw[HM]at hx;rcases hm.row _ _ _ _ _ hx with h2|⟨_,_,_,h2,_⟩<;>(rw[HL]at h2;cases h2)
 ·exact h1
theorem TC.base{X:bq}{c:Code}{q:Exit->St->Prop}{st:St}(k:X.s0.H.length<=st.H.length->TC X c st q):TC X c st q:=
 λa w hi=>k hi.base a w hi
theorem Aw(r:List D):cT (r.map .d)=some r:=by induction r with
 |nil=>rfl
 |cons a r ih=>simp[cT,ih]
def vu(H:Hp)(rows:List (List D)):M:=match rows with
 |[]=>.d (.sl [])
 |_::r=>.bB H.length 0 (r.length+1)
def pO(H:Hp)(ec:Nat)(rows:List (List D)):Hp:=match rows with
 |[]=>H
 |q::r=>H++[.row true ec 0 (br (q::r))]
variable{X:bq}{ops:Array Oper}{rest:List Oper}{post:St->Prop}{sl:List (Nat×V)}{bx:List (Nat×List M)}{H:Hp}{d ty:Nat}{pos:String}{af:Array Edge}
theorem uy{T:Nat}{cs:List M}[hz:ib X.P T cs](hn:Nat.blt d X.n=true)(k:TL X ops rest ⟨(d,.m (.ref H.length 0))::sl,bx,H++[Ob.box cs]⟩ post):
  TL X ops (⟨some d,.alloc T,ty,pos,af,none⟩::rest) ⟨sl,bx,H⟩ post:=by
 obtain⟨z,h1,h2⟩:=hz.h;subst h2;exact TL.o1 rfl rfl hn x7 k
end Go.Mt
