/- A part of the proof of the last text of this claim, without conditions. -/
import Derived.Tactics
import Derived.Orders
import Derived.Deep.LoopGhost
import Derived.Below
import Derived.WalkKit
set_option maxRecDepth 4000
set_option linter.all false
namespace Go
def W.{u}{α:Sort u}{a:α}:a=a:=rfl
abbrev ago:=@Int.natCast_nonneg
abbrev agp:=@List.take_succ_eq_append_getElem
abbrev agq:=@List.length_append
abbrev agr:=@of_decide_eq_true
abbrev ags:=@Nat.le_refl
abbrev agt:=@List.length_map
abbrev agu:=@List.mem_cons
abbrev agv:=@of_decide_eq_false
abbrev agw:=@if_neg
abbrev agx:=@List.getElem_mem
abbrev agy:=@List.foldl_cons
abbrev agz:=@List.take_length
abbrev agA:=@List.length_cons
abbrev agB:=@List.length_singleton
abbrev agC:=@List.mem_map
abbrev agD:=@List.getElem?_eq_none
abbrev agE:=@List.not_mem_nil
abbrev agF:=@List.getElem?_append_left
abbrev agG:=@List.mem_append
abbrev agH:=@List.map_cons
abbrev agI:=@List.map_append
abbrev agJ:=@Nat.lt_or_ge
abbrev agK:=@if_pos
abbrev agL:=@List.append_nil
abbrev agM:=@List.length_take
abbrev agN:=@List.mem_of_getElem?
abbrev agO:=@Nat.eq_of_beq_eq_true
abbrev agP:=@List.getElem?_append_right
abbrev agQ:=@List.cons_append
abbrev agR:=@Nat.mul_le_mul_right
abbrev agS:=@List.take_zero
abbrev agT:=@Nat.le_of_ble_eq_true
abbrev agU:=@Option.map_eq_some_iff
abbrev agV:=@Nat.ble_eq_true_of_le
abbrev agW:=@Nat.le_trans
abbrev agX:=@Array.getElem?_eq_none
abbrev agY:=@Array.getElem?_append_left
abbrev agZ:=@Bool.and_eq_true
abbrev ag0:=@or_false
abbrev ag1:=@List.map_nil
abbrev ag2:=@List.nil_append
abbrev ag3:=@List.getElem?_eq_getElem
abbrev ag4:=@List.mem_map_of_mem
abbrev ag5:=@Nat.eq_zero_or_pos
abbrev ag6:=@cond_true
abbrev ag7:=@List.foldl_append
abbrev ag8:=@List.getElem?_set_ne
abbrev ag9:=@List.mem_singleton
abbrev aha:=@decide_eq_true
abbrev ahb:=@Array.getElem?_setIfInBounds_ne
abbrev ahc:=@decide_eq_false
abbrev ahd:=@List.findIdx?_eq_some_iff_getElem
abbrev ahe:=@List.perm_middle
abbrev ahf:=@List.take_append_drop
abbrev ahg:=@List.take_succ_cons
abbrev ahh:=@List.getElem?_map
abbrev ahi:=@List.append_assoc
abbrev ahj:=@Bool.false_eq_true
abbrev ahk:=@List.getElem?_eq_some_iff
abbrev ahl:=@Option.some.injEq
abbrev ahm:=@List.mem_append_left
abbrev ahn:=@List.mem_cons_self
abbrev aho:=@Array.getElem?_append_right
abbrev ahp:=@Nat.add_mul
abbrev ahq:=@Nat.zero_add
abbrev ahr:=@List.getElem_of_mem
abbrev ahs:=@Nat.eq_of_mul_eq_mul_right
abbrev aht:=@List.mem_cons_of_mem
abbrev ahu:=@List.eq_nil_of_length_eq_zero
abbrev ahv:=@List.drop_eq_getElem_cons
abbrev ahw:=@List.take_of_length_le
abbrev ahx:=@Array.getElem?_replicate
abbrev ahy:=@Nat.zero_le
abbrev ahz:=@List.mem_append_right
abbrev ahA:=@congrArg
abbrev ahB:=@List.nodup_cons
abbrev ahC:=@Array.getElem?_extract
abbrev ahD:=@List.all_eq_true
abbrev ahE:=@List.getElem_cons_succ
abbrev ahF:=@List.findIdx?_eq_none_iff
abbrev ahG:=@beq_eq_false_iff_ne
abbrev ahH:=@Bool.not_eq_true'
abbrev ahI:=@Nat.lt_succ_iff_lt_or_eq
abbrev ahJ:=@Ne.symm
abbrev ahK:=@Nat.succ_mul
abbrev ahL:=@if_false
abbrev ahM:=@List.getElem_cons_zero
abbrev ahN:=@Nat.min_eq_left
abbrev ahO:=@List.getElem?_toArray
abbrev ahP:=@List.getElem?_drop
abbrev ahQ:=@List.getElem?_take
abbrev ahR:=@Nat.add_assoc
abbrev ahS:=@List.getElem?_of_mem
abbrev ahT:=@List.length_eq_zero_iff
abbrev ahU:=@Array.getElem?_push
abbrev ahV:=@Nat.mul_le_mul_left
abbrev ahW:=@Nat.add_zero
abbrev ahX:=@List.any_eq_true
abbrev ahY:=@Nat.lt_of_lt_of_le
abbrev ahZ:=@List.mem_range
abbrev ah0:=@Nat.mul_le_mul
abbrev ah1:=@List.exists_cons_of_ne_nil
abbrev ah2:=@List.foldl_nil
abbrev ah3:=@if_true
abbrev ah4:=@ByteArray.size_append
abbrev ah5:=@Bool.or_eq_true
abbrev ah6:=@List.nodup_append
abbrev ah7:=@List.ext_getElem?
abbrev ah8:=@Nat.le_succ
abbrev ah9:=@List.flatMap_cons
abbrev aia:=@List.flatMap_append
abbrev aib:=@Nat.lt_succ_self
abbrev aic:=@and_true
abbrev aid:=@Array.getElem?_modify
abbrev aie:=@List.sizeOf_lt_of_mem
abbrev aif:=@List.length_filter_le
abbrev aih:=@ByteArray.data_append
abbrev aii:=@List.getElem?_concat_length
abbrev aij:=@List.length_range
abbrev aik:=@Nat.mod_lt
abbrev ail:=@Iff.rfl
abbrev aim:=@List.map_toArray
abbrev ain:=@List.drop_length
abbrev aio:=@Nat.add_comm
abbrev aip:=@List.getElem_map
abbrev aiq:=@List.pairwise_iff_getElem
abbrev air:=@Array.toList_append
abbrev ais:=@List.getElem?_take_of_lt
abbrev ait:=@Array.ext_getElem?
abbrev aiu:=@cond_false
abbrev aiv:=@Nat.le_mul_of_pos_right
abbrev aiw:=@List.flatten_eq_nil_iff
abbrev aix:=@Array.getElem?_setIfInBounds_self
abbrev aiy:=@Array.setIfInBounds_append_right
abbrev aiz:=@Array.getElem?_append
abbrev aiA:=@List.mem_iff_getElem?
abbrev aiB:=@Bool.not_eq_true
abbrev aiC:=@Nat.le_add_right
abbrev aiD:=@List.ext_getElem
abbrev aiE:=@Array.eq_empty_of_size_eq_zero
abbrev aiF:=@Option.getD_some
abbrev aiG:=@List.find?_eq_some_iff_getElem
abbrev aiH:=@List.length_drop
abbrev aiI:=@Nat.mul_assoc
abbrev aiJ:=@List.take_nil
abbrev aiK:=@List.take_append_of_le_length
abbrev aiL:=@Option.map_some
abbrev aiM:=@Nat.mul_eq_zero
abbrev aiN:=@List.mem_filter
abbrev aiO:=@List.head?_cons
abbrev aiP:=@List.length_set
abbrev aiQ:=@List.drop_succ_cons
abbrev aiR:=@List.reverse_append
abbrev aiS:=@List.map_map
abbrev aiT:=@List.mapM_cons
abbrev aiU:=@List.drop_zero
abbrev aiV:=@List.find?_eq_none
abbrev aiW:=@List.nodup_iff_pairwise_ne
abbrev aiX:=@Array.mapM_eq_mapM_toList
abbrev aiY:=@List.mem_take_iff_getElem
abbrev aiZ:=@List.size_toArray
abbrev ai0:=@Array.size_append
abbrev ai1:=@Array.getElem_mem
abbrev ai2:=@Int.toNat_natCast
abbrev ai3:=@Bool.eq_false_iff
abbrev ai4:=@List.sum_cons
abbrev ai5:=@Option.bind_some
abbrev ai6:=@List.drop_append
abbrev ai7:=@List.mem_flatten
abbrev ai8:=@List.filter_cons_of_pos
abbrev ai9:=@List.filter_cons_of_neg
abbrev aja:=@List.filter_cons
abbrev ajb:=@Int.eq_ofNat_of_zero_le
abbrev ajc:=@List.drop_eq_nil_of_le
abbrev ajd:=@List.getElem?_set_self
abbrev aje:=@List.length_pos_of_mem
abbrev ajf:=@List.getElem_cons_drop
abbrev ajg:=@List.drop_of_length_le
abbrev ajh:=@List.reverse_singleton
abbrev aji:=@Nat.mul_zero
abbrev ajj:=@Int.natCast_add
abbrev ajk:=@List.find?_cons
abbrev ajl:=@Option.some.inj
abbrev ajm:=@Array.mem_iff_getElem
abbrev ajn:=@List.getElem?_zipWith
abbrev ajo:=@List.Perm.append_left
abbrev ajp:=@List.singleton_append
abbrev ajq:=@List.map_take
abbrev ajr:=@Nat.blt_eq
abbrev ajs:=@Nat.beq_refl
abbrev ajt:=@congrFun
abbrev aju:=@Nat.mul_comm
abbrev ajv:=@not_or
end Go
namespace Go.Mt
inductive D where
 |int (k:IntKind) (n:Int)
 |bool (b:Bool)
 |str (s:ByteArray)
 |sl (rows:List (List D))
 |oa
 |agg (cs:List D)
 |ca (cs:List D) (off:Nat)
 |fn (f:Nat) (cap:List D)
 |nJ|wS|mh|jJ
 |E_ (t:Nat) (d:D)
 deriving Inhabited
inductive M where
 |d (x:D)
 |ref (i off:Nat)
 |cy (i Lh len:Nat)
 |cF (i Lh off:Nat)
 |mp (i:Nat)
 |it (i:Nat)
 |agg (cs:List M)
 |fn (f:Nat) (cap:List M)
 |c_ (vs:List M)
 |undef
 deriving Inhabited
inductive V where
 |m (x:M)
 |loc (t off:Nat)
 |tl (j Lh off len:Nat)
 deriving Inhabited
inductive Ob where
 |box (cs:List M)
 |row (acc:Bool) (ec Lh:Nat) (cs:List M)
 |map (es:List (D×M))
 |iter (x:M)
 |dead
 |free
 deriving Inhabited
abbrev Hp:=List Ob
def get{α:Type} :List (Nat×α)->Nat->Option α
 |[],_=>none
 |(k,v)::r,t=>bif Nat.beq k t then some v else get r t
structure St where
 sl:List (Nat×V)
 bx:List (Nat×List M)
 H:Hp
def rS(P:Program)(t:Nat):Option Bool:=
 match P.underlying t with
 |some (.struct _)=>some true
 |some (.array _ _)=>some true
 |some _=>some false
 |none=>none
def ij(P:Program)(t:Nat):Option Nat:=(P.info? t).map (·.size)
def wT(P:Program)(t:Nat):Option Nat:=(P.info? t).map (·.bytes)
def oz:Value->Option D
 |.int k n=>some (.int k n)
 |.bool b=>some (.bool b)
 |.string s=>some (.str s)
 |.slice none 0 0=>some (.sl [])
 |.pointer none=>some .nJ
 |.nilFunc=>some .wS
 |.nilIface=>some .mh
 |.map none=>some .jJ
 |_=>none
def j9:List Value->Option (List D)
 |[]=>some []
 |v::r=>match oz v,j9 r with
  |some d,some a=>some (d::a)
  |_,_=>none
def oX:Value->Option D
 |.agg a=>match j9 a.toList with
  |some a=>some (.agg a)
  |none=>none
 |v=>oz v
def oY(P:Program)(t:Nat):Option D:=
 match P.info? t with
 |some i=>match i.zero with
  |some v=>oX v
  |none=>none
 |none=>none
def bj(sl:List (Nat×V)):Operand->Option V
 |.tmp t=>get sl t
 |.const v=>match oX v with
  |some d=>some (.m (.d d))
  |none=>none
 |.func f=>some (.m (.d (.fn f [])))
 |.global _=>none
def St.ev(s:St)(x:Operand):Option V:=bj s.sl x
def bP:D->List D
 |.agg a=>a
 |d=>[d]
def cellsOf:M->List M
 |.d x=>(bP x).map .d
 |.agg a=>a
 |m=>[m]
def fY:List M->Option (List D)
 |[]=>some []
 |.d x::r=>(fY r).map (x:: ·)
 |_=>none
def pack(cs:List M):M:=
 match fY cs with
 |some a=>.d (.agg a)
 |none=>.agg cs
def ef(P:Program)(t:Nat)(cs:List M)(off:Nat):Option M:=
 match rS P t,ij P t with
 |some true,some n=>bif Nat.ble (off+n) cs.length then some (pack ((cs.drop off).take n))else none
 |some false,_=>cs[off]?
 |_,_=>none
def pT(P:Program)(t:Nat)(cs:List D)(off:Nat):Option D:=
 match rS P t,ij P t with
 |some true,some n=>bif Nat.ble (off+n) cs.length then some (.agg ((cs.drop off).take n))else none
 |some false,_=>cs[off]?
 |_,_=>none
def dE(cs:List M)(off:Nat)(new:List M):Option (List M):=
 bif Nat.ble (off+new.length) cs.length then some (cs.take off++new++cs.drop (off+new.length))else none
def chunk(a:Nat):Nat->List M->Option (List (List D))
 |0,[]=>some []
 |0,_=>none
 |n+1,b=>match fY (b.take a),chunk a n (b.drop a)with
  |some r,some a=>some (r::a)
  |_,_=>none
def flat:Value->Bool
 |.agg _=>false
 |.tuple _=>false
 |_=>true
variable{v:Value}
abbrev d_(w:World)(b o:Nat):Option Value:=w.cell? ⟨b,o,none⟩
inductive gI(O:Nat->Nat->Prop)(w:World):D->Value->Prop where
 |int (k:IntKind) (n:Int):gI O w (.int k n) (.int k n)
 |bool (b:Bool):gI O w (.bool b) (.bool b)
 |str (s:ByteArray):gI O w (.str s) (.string s)
 |slnil (a:Option Addr):gI O w (.sl []) (.slice a 0 0)
 |sl (rows:List (List D)) (b o cap c:Nat) (e:Nat->Nat->Value) (g:rows≠[]) (l:rows.length<=cap) (m:rows.length<=140737488355328)
   (Nh:∀r∈rows,r.length=c)
   (LO:∀i j,i<rows.length->j<c->d_ w b (o+(i*c+j))=some (e i j)/\¬O b (o+(i*c+j)))
   (Mc:∀i j,i<rows.length->j<c->flat (e i j)=true)
   (MN:∀i j r d,rows[i]?=some r->r[j]?=some d->gI O w d (e i j)):
   gI O w (.sl rows) (.slice (some ⟨b,o,none⟩) rows.length cap)
 |oa (a:Option Addr) (cap:Nat):gI O w .oa (.slice a 0 cap)
 |agg (cs:List D) (c:Array Value) (e:c.size=cs.length) (g:∀(i:Nat) (v:Value),c[i]?=some v->flat v=true) (h:∀(i:Nat) (d:D) (v:Value),cs[i]?=some d->c[i]?=some v->gI O w d v):gI O w (.agg cs) (.agg c)
 |ca (cs:List D) (off b o:Nat) (c:Nat->Value)
   (LO:∀i,i<cs.length->d_ w b (o+i)=some (c i)/\¬O b (o+i))
   (Mc:∀i,i<cs.length->flat (c i)=true)
   (MN:∀i d,cs[i]?=some d->gI O w d (c i)):gI O w (.ca cs off) (.pointer (some ⟨b,o+off,none⟩))
 |fn (f:Nat) (cs:List D) (c:Array Value) (e:c.size=cs.length) (h:∀(i:Nat) (d:D) (v:Value),cs[i]?=some d->c[i]?=some v->gI O w d v):gI O w (.fn f cs) (.func (.func f) #[] c)
 |nJ:gI O w .nJ (.pointer none)
 |wS:gI O w .wS .nilFunc
 |mh:gI O w .mh .nilIface
 |jJ:gI O w .jJ (.map none)
 |E_ (t:Nat) (d:D) (v:Value) (h:gI O w d v):gI O w (.E_ t d) (.iface t v)
def gI.mono{O a:Nat->Nat->Prop}{w w':World}(c:∀b o v,d_ w b o=some v->¬O b o->d_ w' b o=some v/\¬a b o)
  {d:D} (h:gI O w d v):gI a w' d v:=by
 induction h with
 |int k n=>exact .int k n
 |bool b=>exact .bool b
 |str s=>exact .str s
 |slnil e=>exact .slnil e
 |sl q b o n f p g i j k e l r m=>
  exact .sl q b o n f p g i j k (λi j a f=>c _ _ _ (e i j a f).1 (e i j a f).2) l m
 |oa e f=>exact .oa e f
 |agg f g i j h e=>exact .agg f g i j e
 |ca i k b o j e f l g=>exact .ca i k b o j (λi a=>c _ _ _ (e i a).1 (e i a).2) f g
 |fn f g i j h e=>exact .fn f g i j e
 |nJ=>exact .nJ
 |wS=>exact .wS
 |mh=>exact .mh
 |jJ=>exact .jJ
 |E_ t d v h e=>exact .E_ t d v e
structure Sg where
 w:World
 O:Nat->Nat->Prop
 l:Nat->Nat
 H:Hp
variable{σ τ:Sg}
inductive RM(σ:Sg):M->Value->Prop where
 |d {x:D} {v:Value} (h:gI σ.O σ.w x v):RM σ (.d x) v
 |ref (i off:Nat) (cs:List M) (h:σ.H[i]?=some (.box cs)):RM σ (.ref i off) (.pointer (some ⟨σ.l i,off,none⟩))
 |cy (i c len:Nat) (a:Option Addr) (cap:Nat)
   (hle:σ.H[i]?=some .dead\/∃acc j e cs,σ.H[i]?=some (.row acc j e cs)/\c<=e)
   (Mh:∀acc e cs,σ.H[i]?=some (.row acc e c cs)->a=some ⟨σ.l i,0,none⟩/\cs.length=len*e/\∃arr T,σ.w.heap[σ.l i]?=some (.cells arr T (0,0))/\arr.size=cap*e):
   RM σ (.cy i c len) (.slice a len cap)
 |cF (i c off b:Nat)
   (hle:σ.H[i]?=some .dead\/∃acc j e cs,σ.H[i]?=some (.row acc j e cs)/\c<=e)
   (Mh:∀acc e cs,σ.H[i]?=some (.row acc e c cs)->b=σ.l i):RM σ (.cF i c off) (.pointer (some ⟨b,off,none⟩))
 |mp (i:Nat) (es:List (D×M)) (h:σ.H[i]?=some (.map es)):RM σ (.mp i) (.map (some (σ.l i)))
 |it (i:Nat) (x:M) (h:σ.H[i]?=some (.iter x)):RM σ (.it i) (.pointer (some ⟨σ.l i,0,none⟩))
 |agg (cs:List M) (c:Array Value) (e:c.size=cs.length) (j:∀(i:Nat) (v:Value),c[i]?=some v->flat v=true) (h:∀(i:Nat) (m:M) (v:Value),cs[i]?=some m->c[i]?=some v->RM σ m v):RM σ (.agg cs) (.agg c)
 |fn (f:Nat) (cs:List M) (c:Array Value) (j:f<1024) (e:c.size=cs.length) (h:∀(i:Nat) (m:M) (v:Value),cs[i]?=some m->c[i]?=some v->RM σ m v):RM σ (.fn f cs) (.func (.func f) #[] c)
 |ww (f g:Nat) (cs:List M) (c:Array Value) (j:g=f+1024) (e:c.size=cs.length) (h:∀(i:Nat) (m:M) (v:Value),cs[i]?=some m->c[i]?=some v->RM σ m v):RM σ (.fn g cs) (.func (.func f) c #[])
 |c_ (cs:List M) (c:Array Value) (e:c.size=cs.length) (h:∀(i:Nat) (m:M) (v:Value),cs[i]?=some m->c[i]?=some v->RM σ m v):RM σ (.c_ cs) (.tuple c)
 |undef (v:Value):RM σ .undef v
structure db(σ τ:Sg):Prop where
 cell:∀b o v,d_ σ.w b o=some v->¬σ.O b o->d_ τ.w b o=some v/\¬τ.O b o
 box:∀(i:Nat) cs,σ.H[i]?=some (.box cs)->(∃Ls,τ.H[i]?=some (.box Ls))/\τ.l i=σ.l i
 map:∀(i:Nat) es,σ.H[i]?=some (.map es)->(∃a,τ.H[i]?=some (.map a))/\τ.l i=σ.l i
 iter:∀(i:Nat) x,σ.H[i]?=some (.iter x)->(∃a,τ.H[i]?=some (.iter a))/\τ.l i=σ.l i
 dead:∀i:Nat,σ.H[i]?=some .dead->τ.H[i]?=some .dead
 row:∀(i:Nat) acc d a cs,σ.H[i]?=some (.row acc d a cs)->τ.H[i]?=some .dead\/∃e c Ls,τ.H[i]?=some (.row e d c Ls)/\a<=c/\
  (c=a->τ.l i=σ.l i/\Ls.length=cs.length/\∀arr T,σ.w.heap[σ.l i]?=some (.cells arr T (0,0))->∃a,τ.w.heap[σ.l i]?=some (.cells a T (0,0))/\a.size=arr.size)
 free:∀i:Nat,σ.H[i]?=some .free->∃ob,τ.H[i]?=some ob
def db.refl(σ:Sg):db σ σ:=
 ⟨λ_ _ _ h a=>⟨h,a⟩,λ_ a h=>⟨⟨a,h⟩,rfl⟩,λ_ a h=>⟨⟨a,h⟩,rfl⟩,λ_ x h=>⟨⟨x,h⟩,rfl⟩,λ_ h=>h,
 λ_ c a b a h=>.inr ⟨c,b,a,h,ags _,λ_=>⟨rfl,rfl,λa T h=>⟨a,h,rfl⟩⟩⟩,λ_ h=>⟨_,h⟩⟩
def db.has(h:db σ τ)(i:Nat)(ob:Ob)(hi:σ.H[i]?=some ob):∃MA,τ.H[i]?=some MA:=by
 cases ob with
 |box b=>obtain⟨⟨c,a⟩,_⟩:=h.box i b hi;exact⟨_,a⟩
 |map b=>obtain⟨⟨c,a⟩,_⟩:=h.map i b hi;exact⟨_,a⟩
 |iter b=>obtain⟨⟨c,a⟩,_⟩:=h.iter i b hi;exact⟨_,a⟩
 |dead=>exact⟨_,h.dead i hi⟩
 |free=>exact h.free i hi
 |row e c d b=>
  rcases h.row i e c d b hi with a|⟨_,_,_,a,_⟩
  .exact⟨_,a⟩
  .exact⟨_,a⟩
def db.trans{e:Sg}(h:db σ τ)(k:db τ e):db σ e:=by
 refine⟨?_,?_,?_,?_,?_,?_,λi c=>let⟨p,a⟩:=h.free i c;k.has i p a⟩
 .intro b o v c a;obtain⟨d,f⟩:=h.cell b o v c a;exact k.cell b o v d f
 .intro i g c;obtain⟨⟨j,d⟩,f⟩:=h.box i g c;obtain⟨l,m⟩:=k.box i j d;exact⟨l,m.trans f⟩
 .intro i g c;obtain⟨⟨j,d⟩,f⟩:=h.map i g c;obtain⟨l,m⟩:=k.map i j d;exact⟨l,m.trans f⟩
 .intro i g c;obtain⟨⟨j,d⟩,f⟩:=h.iter i g c;obtain⟨l,m⟩:=k.iter i j d;exact⟨l,m.trans f⟩
 .exactλi a=>k.dead i (h.dead i a)
 .intro i M f g o n;rcases h.row i M f g o n with a|⟨r,c,q,a,s,t⟩
  .exact .inl (k.dead i a)
  .rcases k.row i r f c q a with d|⟨u,j,w,d,x,y⟩
   .exact .inl d
   .refine .inr ⟨u,j,w,d,agW s x,λO=>?_⟩;have z:c=g:=by omega
    have A:j=c:=by omega
    obtain⟨l,B,C⟩:=t z;obtain⟨D,E,m⟩:=y A;refine⟨D.trans l,E.trans B,λN T F=>?_⟩;obtain⟨G,H,I⟩:=C N T F;rw[l]at m;obtain⟨J,K,L⟩:=m G T H;exact⟨J,K,L.trans I⟩
def RM.mono(a:db σ τ){m:M}(h:RM σ m v):RM τ m v:=by
 have g:∀(i a:Nat),(σ.H[i]?=some .dead\/∃j f c g,σ.H[i]?=some (.row j f c g)/\a<=c)->
   (τ.H[i]?=some .dead\/∃j f c g,τ.H[i]?=some (.row j f c g)/\a<=c):=by
  intro i u h;rcases h with h|⟨t,f,j,l,n,o⟩
  .exact .inl (a.dead i h)
  .rcases a.row i t f j l n with c|⟨p,q,r,c,s,_⟩
   .exact .inl c
   .exact .inr ⟨p,f,q,r,c,agW o s⟩
 have k:∀(i f:Nat) g a c,(σ.H[i]?=some .dead\/∃g a j c,σ.H[i]?=some (.row g a j c)/\f<=j)->τ.H[i]?=some (.row g a f c)->
   ∃j g,σ.H[i]?=some (.row j a f g)/\τ.l i=σ.l i/\c.length=g.length/\∀c T,σ.w.heap[σ.l i]?=some (.cells c T (0,0))->∃a,τ.w.heap[σ.l i]?=some (.cells a T (0,0))/\a.size=c.size:=by
  intro i B I C D A c;rcases A with h|⟨l,q,n,o,j,E⟩
  .have:=a.dead i h;rw[this]at c;cases c
  .rcases a.row i l q n o j with f|⟨F,p,G,f,H,r⟩
   .rw[f]at c;cases c
   .rw[f]at c;injection c with c
    injection c with s t u w
    subst s;subst t;subst w;subst u;have e:n=p:=by omega
    subst e;obtain⟨x,y,z⟩:=r W;exact⟨l,o,j,x,y,z⟩
 induction h with
 |d h=>exact .d (h.mono a.cell)
 |ref i n c h=>
  obtain⟨⟨l,f⟩,j⟩:=a.box i c h;rw[<-j];exact .ref i n l f
 |cy i c G l H j x=>
  refine .cy i c G l H (g i c j) λE f n w=>?_
  obtain⟨s,t,o,p,q,r⟩:=k i c E f n j w;obtain⟨y,z,F,T,A,B⟩:=x s f t o;obtain⟨u,C,D⟩:=r F T A;rw[p];exact⟨y,q.trans z,u,T,C,D.trans B⟩
 |cF i c u b j s=>
  refine .cF i c u b (g i c j) λt f l r=>?_
  obtain⟨p,q,n,o,w,x⟩:=k i c t f l j r;rw[o];exact s p f q n
 |mp i j h=>
  obtain⟨⟨l,c⟩,f⟩:=a.map i j h;rw[<-f];exact .mp i l c
 |it i x h=>
  obtain⟨⟨j,c⟩,f⟩:=a.iter i x h;rw[<-f];exact .it i j c
 |agg c f i j h l=>exact .agg c f i j l
 |fn f c i n j h l=>exact .fn f c i n j l
 |ww f c i j o l h n=>exact .ww f c i j o l n
 |c_ c f i h j=>exact .c_ c f i j
 |undef v=>exact .undef v
end Go.Mt
namespace Go.Mt
variable{σ τ:Sg}{es LM:List (D×M)}{e:D×M}{c:Code}{id clock:Nat}{ms:List M}{vs:Array Value}{Lz:Array MapEntry}{v:Value}{u:MapEntry}
def nC(σ:Sg)(ms:List M)(a:Array Value):Prop:=
 a.size=ms.length/\∀(i:Nat) (m:M) (v:Value),ms[i]?=some m->a[i]?=some v->RM σ m v
def nC.mono(a:db σ τ)(h:nC σ ms vs):nC τ ms vs:=
 ⟨h.1,λi m v b c=>(h.2 i m v b c).mono a⟩
def jh(σ:Sg)(ms:List M)(a:Array Value):Prop:=
 a.size=ms.length/\∀(i:Nat) (m:M) (v:Value),ms[i]?=some m->a[i]?=some v->RM σ m v/\flat v=true
def jh.mono(c:db σ τ)(h:jh σ ms vs):jh τ ms vs:=
 ⟨h.1,λi m v a b=>⟨(h.2 i m v a b).1.mono c,(h.2 i m v a b).2⟩⟩
def Ob.live:Ob->Prop
 |.dead=>False
 |.free=>False
 |_=>True
variable{ob:Ob}
def Ob.iP:Ob->Nat->Prop
 |.box _,_=>True
 |.map _,_=>True
 |.iter _,_=>True
 |.row b _ _ a,o=>b=false\/a.length<=o
 |.dead,_=>False
 |.free,_=>False
def Ob.lz{o:Nat}(h:ob.iP o):ob.live:=by cases ob<;>first|trivial|exact h
def wA:D->Option Value
 |.str s=>some (.string s)
 |.int k n=>some (.int k n)
 |_=>none
def oZ(σ:Sg)(c:Nat)(e:D×M)(u:MapEntry):Prop:=(wA e.1=some u.key/\RM σ e.2 u.val)\/(e.1=.nJ/\RM σ e.2 (.tuple #[u.key,u.val]))\/(e.1=.jJ/\RM σ e.2 (.tuple #[u.key,u.val,.int .i64 u.born,.int .i64 c]))
def dQ(a es:List (D×M)):Prop:=a=es\/(a.Perm es/\(∀e∈es,∃s,e.1=.str s)/\(es.map Prod.fst).Nodup)
def dQ.mem(h:dQ LM es):e∈LM↔e∈es:=by
 rcases h with rfl|⟨h,_⟩
 .exact ail
 .exact h.mem_iff
def dQ.len(h:dQ LM es):LM.length=es.length:=by
 rcases h with rfl|⟨h,_⟩
 .rfl
 .exact h.length_eq
def dQ.map(h:dQ LM es)(f:M->M):dQ (LM.map λe=>(e.1,f e.2)) (es.map λe=>(e.1,f e.2)):=by
 rcases h with rfl|⟨a,b,c⟩
 .exact .inl W
 .refine .inr ⟨a.map _,λe d=>?_,?_⟩
  .obtain⟨g,i,rfl⟩:=agC.1 d;exact b g i
  .rw[aiS];exact c
def yR{α β:Type}{f:α->β}{d m:List β}(h:d.Perm m):∀l:List α,m=l.map f->∃a:List α,a.Perm l/\a.map f=d:=by
 induction h with
 |nil=>
     intro l a;have:l=[]:=by simpa using a.symm
     subst this;exact⟨[],.nil,W⟩
 |cons x _ g=>
  intro l a;cases l with
  |nil=>simp at a
  |cons c l=>
   simp at a;obtain⟨rfl,i⟩:=a;obtain⟨e,j,rfl⟩:=g l i;exact⟨c::e,j.cons c,W⟩
 |swap x y e=>
  intro l a
  match l,a with
  |[],a=>simp at a
  |[c],a=>simp at a
  |c::b::l,a=>
   simp at a;obtain⟨rfl,rfl,rfl⟩:=a;exact⟨b::c::l,.swap c b l,W⟩
 |trans _ _ j k=>
  intro l c;obtain⟨i,n,e⟩:=k l c;obtain⟨a,g,o⟩:=j i e.symm;exact⟨a,g.trans n,o⟩
def dQ.Jy{a:List (D×M)}{f:M->M}(h:dQ a (es.map λe=>(e.1,f e.2))):∃b,dQ b es/\a=b.map λe=>(e.1,f e.2):=by
 rcases h with rfl|⟨d,g,b⟩
 .exact⟨es,.inl W,W⟩
 .obtain⟨c,i,j⟩:=yR d es W;refine⟨c,.inr ⟨i,λe k=>?_,?_⟩,j.symm⟩
  .exact g (e.1,f e.2) (agC.2 ⟨e,k,W⟩)
  .rw[aiS]at b;exact b
def lB(a:Array MapEntry)(b:Nat):Prop:=(∀(i:Nat) u,a[i]?=some u->u.born<b)/\∀(i j:Nat) u v,a[i]?=some u->a[j]?=some v->u.born=v.born->i=j
def lB.push{k v:Value}(h:lB Lz clock):lB (Lz.push {key:=k,val:=v,born:=clock}) (clock+1):=by
 refine⟨λi u a=>?_,λi j u v a b e=>?_⟩
 .rw[ahU]at a;split at a
  .injection a with a;subst a;exact aib _
  .exact Nat.lt_succ_of_lt (h.1 i u a)
 .rw[ahU]at a b;split at a<;>split at b
  .omega
  .injection a with a;subst a;have:=h.1 j v b;simp only at e;omega
  .injection b with b;subst b;have:=h.1 i u a;simp only at e;omega
  .exact h.2 i j u v a b e
def lB.modify{n:Nat}{f:MapEntry->MapEntry}(h:lB Lz clock)(d:∀e,(f e).born=e.born):lB (Lz.modify n f) clock:=by
 have b:∀(i:Nat) u,(Lz.modify n f)[i]?=some u->∃a,Lz[i]?=some a/\u.born=a.born:=by
  intro i u a;rw[aid]at a;split at a
  .obtain⟨c,g,rfl⟩:=agU.1 a;exact⟨c,g,d c⟩
  .exact⟨u,a,W⟩
 refine⟨λi u a=>?_,λi j u v a k e=>?_⟩
 .obtain⟨c,g,l⟩:=b i u a;rw[l];exact h.1 i c g
 .obtain⟨c,g,l⟩:=b i u a;obtain⟨m,o,p⟩:=b j v k;exact h.2 i j c m g o (by rw[<-l,<-p];exact e)
def lL(a:Option Nat)(since:Nat)(seen:Array Nat):Value:=.tuple (#[.map a,.int .i64 since]++seen.map λb=>.int .i64 b)
def oZ.KM{c a:Nat}(h:oZ σ c e u)(b:e.1≠.jJ):oZ σ a e u:=by
 rcases h with h|h|⟨d,f⟩
 .exact .inl h
 .exact .inr (.inl h)
 .exact absurd d b
def oZ.up{c:Nat}{m:M}(h:oZ σ c e u)(d:∀v,RM σ e.2 v->RM τ m v):oZ τ c (e.1,m) u:=by
 rcases h with⟨a,b⟩|⟨a,b⟩|⟨a,b⟩
 .exact .inl ⟨a,d _ b⟩
 .exact .inr (.inl ⟨a,d _ b⟩)
 .exact .inr (.inr ⟨a,d _ b⟩)
def fJ(σ:Sg)(b:Nat):Ob->Prop
 |.box c=>∃a T,σ.w.heap[b]?=some (.cells a T (0,0))/\jh σ c a
 |.row g c f d=>0<c/\∃a T f n,σ.w.heap[b]?=some (.cells a T (0,0))/\a.size=f*c/\n<=f/\(d.length=n*c/\n<=140737488355328)/\
   ∀(i:Nat) (m:M) (v:Value),d[i]?=some m->a[i]?=some v->RM σ m v/\flat v=true
 |.map es=>∃d,dQ d es/\∃c f,σ.w.heap[b]?=some (.map c f)/\c.size=d.length/\(∀(i:Nat) e u,d[i]?=some e->c[i]?=some u->oZ σ f e u)/\lB c f
 |.iter x=>(∃a d c last,σ.w.heap[b]?=some (.mapIter a d c last)/\((c= #[]/\RM σ x (.map a))\/(RM σ x (lL a d c)/\d=last)))\/
   ∃a T,σ.w.heap[b]?=some (.cells a T (0,0))/\RM σ x (.tuple (#[.int .i64 b,.int .i64 (T:Nat)]++a))
 |.dead=>True
 |.free=>True
structure ie(σ:Sg)(a:Nat->Nat->Prop):Prop where
 obj:∀(i:Nat) ob,σ.H[i]?=some ob->fJ σ (σ.l i) ob
 inj:∀(i j:Nat) x y,σ.H[i]?=some x->σ.H[j]?=some y->x.live->y.live->σ.l i=σ.l j->i=j
 own:∀b o,σ.O b o↔a b o\/∃(i:Nat) (ob:Ob),σ.H[i]?=some ob/\σ.l i=b/\ob.iP o
 sep:∀(i:Nat) ob,σ.H[i]?=some ob->ob.live->∀o,¬a (σ.l i) o
 iG:∀b o,a b o->b<σ.w.heap.size
def fJ.lt{b:Nat}(h:fJ σ b ob)(d:ob.live):b<σ.w.heap.size:=by
 have a:∀x:Obj,σ.w.heap[b]?=some x->b<σ.w.heap.size:=by
  intro x f;rcases agJ b σ.w.heap.size with h|h
  .exact h
  .simp[agX h]at f
 cases ob with
 |box g=>obtain⟨i,T,f,_⟩:=h;exact a _ f
 |row l i j g=>obtain⟨_,k,T,m,n,f,_⟩:=h;exact a _ f
 |map g=>obtain⟨_,_,e,c,f,_⟩:=h;exact a _ f
 |iter x=>rcases h with⟨_,_,_,_,f,_⟩|⟨_,_,f,_⟩<;>exact a _ f
 |dead=>exact d.elim
 |free=>exact d.elim
def ie.Ej{c:Nat->Nat->Prop}(h:ie σ c):∀b o,σ.O b o->b<σ.w.heap.size:=by
 intro b o d;rcases(h.own b o).1 d with a|⟨i,e,a,f,g⟩
 .exact h.iG b o a
 .rw[<-f];exact(h.obj i e a).lt (Ob.lz g)
structure bT(σ τ:Sg):Prop where
 os:τ.w.os=σ.w.os
 output:τ.w.output=σ.w.output
 tape:τ.w.tape=σ.w.tape
 size:σ.w.heap.size<=τ.w.heap.size
 a_:∀b,b<σ.w.heap.size->(∀(i:Nat) ob,σ.H[i]?=some ob->ob.live->σ.l i≠b)->τ.w.heap[b]?=σ.w.heap[b]?
 loc:∀(i:Nat) ob,τ.H[i]?=some ob->ob.live->σ.w.heap.size<=τ.l i\/∃MA,σ.H[i]?=some MA/\MA.live/\τ.l i=σ.l i
def bT.refl(σ:Sg):bT σ σ:=⟨rfl,rfl,rfl,ags _,λ_ _ _=>rfl,λi a h b=>.inr ⟨a,h,b,rfl⟩⟩
def bT.trans{d:Sg}(h:bT σ τ)(k:bT τ d):bT σ d:=by
 refine⟨k.os.trans h.os,k.output.trans h.output,k.tape.trans h.tape,agW h.size k.size,?_,?_⟩
 .intro b a c;rw[k.a_ b (ahY a h.size) ?_,h.a_ b a c];intro i f g j l;rcases h.loc i f g j with e|⟨m,e,n,o⟩
  .omega
  .exact c i m e n (by rw[<-o];exact l)
 .intro i f g j;rcases k.loc i f g j with a|⟨l,a,m,e⟩
  .exact .inl (agW h.size a)
  .rcases h.loc i l a m with c|⟨n,c,o,p⟩
   .exact .inl (by rw[e];exact c)
   .exact .inr ⟨n,c,o,e.trans p⟩
inductive RV(σ:Sg)(Li:Nat->Nat):V->Value->Prop where
 |m {x:M} {v:Value} (h:RM σ x v):RV σ Li (.m x) v
 |loc (t off:Nat):RV σ Li (.loc t off) (.pointer (some ⟨Li t,off,none⟩))
 |tl (i c off len:Nat) (a:Option Addr) (cap:Nat)
   (hle:σ.H[i]?=some .dead\/∃acc d b cs,σ.H[i]?=some (.row acc d b cs)/\c<=b)
   (Mh:∀acc b cs,σ.H[i]?=some (.row acc b c cs)->(cap≠0->a=some ⟨σ.l i,off*b,none⟩)/\cs.length=(off+len)*b/\∃arr T,σ.w.heap[σ.l i]?=some (.cells arr T (0,0))/\arr.size=(off+cap)*b):
   RV σ Li (.tl i c off len) (.slice a len cap)
def RV.mono{Li:Nat->Nat}(b:db σ τ){x:V}(h:RV σ Li x v):RV τ Li x v:=by
 cases h with
 |m h=>exact .m (h.mono b)
 |loc t a=>exact .loc t a
 |tl i q L M r N o s=>
  refine .tl i q L M r N ?_ λp c f a=>?_
  .rcases o with h|⟨p,c,g,f,j,k⟩
   .exact .inl (b.dead i h)
   .rcases b.row i p c g f j with d|⟨l,n,t,d,u,_⟩
    .exact .inl d
    .exact .inr ⟨l,c,n,t,d,agW k u⟩
  .rcases o with h|⟨j,k,l,n,g,P⟩
   .have:=b.dead i h;rw[this]at a;cases a
   .rcases b.row i j k l n g with d|⟨Q,t,R,d,S,u⟩
    .rw[d]at a;cases a
    .rw[d]at a;injection a with a
     injection a with w y z A
     subst w;subst y;subst A;subst z;have e:l=t:=by omega
     subst e;obtain⟨B,C,D⟩:=u W;obtain⟨E,F,O,T,G,H⟩:=s j k n g;obtain⟨I,J,K⟩:=D O T G;rw[B];exact⟨E,C.trans F,I,T,J,K.trans H⟩
def lU(a:Nat->Nat->Prop)(Li:Nat->Nat)(bx:List (Nat×List M))(b o:Nat):Prop:=
 a b o\/∃t a,get bx t=some a/\Li t=b
structure cY where
 P:Program
 n:Nat
 s0:Sg
 jj:Nat->Nat->Prop
 df:List Deferred
structure cj(X:cY)(σ:Sg)(Li:Nat->Nat)(st:St)(a:Act):Prop where
 hH:σ.H=st.H
 defers:a.defers=X.df
 size:a.tmps.size=X.n
 slot:∀t v,get st.sl t=some v->∃u,a.tmps[t]?=some u/\RV σ Li v u
 box:∀t cs,get st.bx t=some cs->fJ σ (Li t) (.box cs)
 nK:∀t u cs ds,get st.bx t=some cs->get st.bx u=some ds->Li t=Li u->t=u
 oA:∀t cs,get st.bx t=some cs->∀o,¬X.jj (Li t) o
 oB:∀t cs,get st.bx t=some cs->X.s0.w.heap.size<=Li t
 hinv:ie σ (lU X.jj Li st.bx)
 mono:db X.s0 σ
 a_:bT X.s0 σ
def Inv(X:cY)(st:St)(a:Act)(w:World):Prop:=∃b c,b.w=w/\cj X b c st a
def TC(X:cY)(c:Code)(st:St)(post:Exit->St->Prop):Prop:=
 ∀a w,Inv X st a w->c.wp X.P (λe b d=>∃a,post e a/\Inv X a b d) a w
def TL(X:cY)(ops:Array Oper)(l:List Oper)(st:St)(post:St->Prop):Prop:=
 ∀a w,Inv X st a w->wpList X.P ops (λe b c=>e=.normal/\∃a,post a/\Inv X a b c) l a w
def after(post:Exit->St->Prop)(k:St->Prop):Exit->St->Prop
 |.normal,s=>k s
 |e,s=>post e s
section code
variable{X:cY}{st:St}{post:Exit->St->Prop}
def TC.mono{a:Exit->St->Prop}(h:TC X c st post)(b:∀e s,post e s->a e s):TC X c st a:=
 λa w d=>wp_mono (h a w d) λe f g ⟨s,a,d⟩=>⟨s,b _ _ a,d⟩
def TC.seq{x y:Code}(h:TC X x st (after post λs=>TC X y s post)):TC X (.seq x y) st post:=by
 intro a w b;refine wp_seq (wp_mono (h a w b) ?_);intro e c d ⟨s,h1,h2⟩;cases e with
 |normal=>exact h1 c d h2
 |_=>exact⟨s,h1,h2⟩
def TC.skip(h:post .normal st):TC X .skip st post:= λa w a=>wp_skip ⟨st,h,a⟩
def TC.exit(h:post (.exit id) st):TC X (.exit id) st post:= λa w a=>wp_exit ⟨st,h,a⟩
def TC.ret(h:post .ret st):TC X .ret st post:= λa w a=>wp_ret ⟨st,h,a⟩
def mU(id:Nat)(post:Exit->St->Prop):Exit->St->Prop
 |.exit i,s=>if i=id then post .normal s else post (.exit i) s
 |e,s=>post e s
def TC.block(h:TC X c st (mU id post)):TC X (.block id c) st post:=by
 intro b w d;refine wp_block (wp_mono (h b w d) ?_);intro e f g ⟨s,h1,h2⟩;cases e with
 |exit i=>
  simp only[mU]at h1;simp only[Exit.inBlock];by_cases a:i=id
  .rw[agK a]at h1⊢;exact⟨s,h1,h2⟩
  .rw[agw a]at h1⊢;exact⟨s,h1,h2⟩
 |_=>exact⟨s,h1,h2⟩
def TC.loop(I:Nat->St->Prop)(b:Nat)(f:I b st)
  (n:∀k s,I k s->TC X c s (after post λb=>∃a,a<k/\I a b)):TC X (.loop c) st post:=by
 intro a w h;refine wp_loop_ghost (λk a w=>∃s,I k s/\Inv X s a w) b ⟨st,f,h⟩ ?_;rintro k a w ⟨s,i,j⟩;refine wp_mono (n k s i a w j) ?_;intro e o p ⟨d,h3,h4⟩;cases e with
 |normal=>obtain⟨g,l,m⟩:=h3;exact⟨g,l,d,m,h4⟩
 |_=>exact⟨d,h3,h4⟩
def TC.region{ops:List Oper}(h:TL X ops.toArray ops st (post .normal)):TC X (.region id ops.toArray false) st post:=by
 intro a w f;refine wp_region_lit ?_;have m:∀l a w,wpList X.P ops.toArray (λe b c=>e=.normal/\∃a,post .normal a/\Inv X a b c) l a w->
   wpList X.P ops.toArray (λe b c=>∃a,post e a/\Inv X a b c) l a w:=by
  have b:∀(e:Exit) a w,(e=.normal/\∃b,post .normal b/\Inv X b a w)->∃b,post e b/\Inv X b a w:=by
   rintro e a w ⟨rfl,h⟩;exact h
  have d:∀(Q b:Exit->Act->World->Prop),(∀e a w,Q e a w->b e a w)->LetsOut Q->LetsOut b:= λQ g h ⟨a,w,q⟩=>⟨a,w,h _ _ _ q⟩
  have up:∀(o:Oper) (a:Act) (w:World) (next c:Act->World->Prop) (Q b:Exit->Act->World->Prop),(∀a w,next a w->c a w)->(∀e a w,Q e a w->b e a w)->o.wp X.P a w next Q->o.wp X.P a w c b:=by
   intro o a w next k Q g hn b h
   unfold Oper.wp at*;generalize (execOp a.eval o).run X.P w=r at*;cases r with
   |ok x i=>
    cases x<;>simp only[Oper.upon]at h⊢ <;>
     first
      |exact hn _ _ h
      |exact Calls.mono h (λe j c=>by cases e<;>first|exact hn _ _ c|exact b _ _ _ c|exact d _ _ b c)
      |exact Rows.mono h (λ_ _ a=>hn _ _ a)
      |exact h
   |halt x c=>cases x<;>simp only[Oper.upon]at h⊢ <;>first|exact b _ _ _ h|exact h
  intro l
  induction l with
  |nil=>intro a w h;exact b _ _ _ h
  |cons o l c=>
   intro a w h;unfold wpList at h⊢;split
   .rename_i i;rw[agK i]at h;rcases h with h|⟨j,k⟩
    .exact .inl (up o a w _ _ _ _ c b h)
    .exact .inr ⟨j,d _ _ b k⟩
   .rename_i i;rw[agw i]at h;exact c _ _ h
 exact m _ _ _ (h a w f)
end code
end Go.Mt
namespace Go.Mt
variable{x y c:Operand}{o:Oper}{X:cY}{v:V}{st s:St}{a:Act}{w w':World}{σ:Sg}{Li:Nat->Nat}{ops:Array Oper}{post:St->Prop}{rest:List Oper}{P:Program}{d xt yt:Nat}{k:IntKind}{n m:Int}{ρ:Operand->Value}{b:Bool}{O:Nat->Nat->Prop}{u:Value}{OR:V->St->Prop}
def dv(P:Program)(o:Oper)(ρ:Operand->Value)(w:World)(post:Value->World->Prop):Prop:=
 match(execOp ρ o).run P w with
 |.ok (.value u) w'=>post u w'
 |.ok .skip w'=>post undef w'
 |.ok (.enter f a) w'=>Calls P f a w' λe a=>∃u,e=.returned u/\post u a
 |_=>False
def dv.value{post:Value->World->Prop}
  (h:(execOp ρ o).run P w=.ok (.value u) w') (a:post u w'):dv P o ρ w post:=by
 unfold dv;rw[h];exact a
def dv.skip{post:Value->World->Prop}
  (h:(execOp ρ o).run P w=.ok .skip w') (a:post undef w'):dv P o ρ w post:=by
 unfold dv;rw[h];exact a
def dv.enter{f:Nat}{args:Array Value}{post:Value->World->Prop}
  (h:(execOp ρ o).run P w=.ok (.enter f args) w') (a:Calls P f args w' λe a=>∃u,e=.returned u/\post u a):dv P o ρ w post:=by
 unfold dv;rw[h];exact a
def dv.wp{post:Value->World->Prop}{next:Act->World->Prop}{Q:Exit->Act->World->Prop}
  (h:dv P o a.eval w post) (b:∀u b,post u b->next (a.put o.dst u) b):o.wp P a w next Q:=by
 unfold dv at h;unfold Oper.wp;generalize (execOp a.eval o).run P w=r at*;cases r with
 |ok x f=>
  cases x<;>simp only[Oper.upon]at h⊢ <;>
   first
    |exact b _ _ h
    |exact h.elim
    |exact Calls.mono h (λe g ⟨u,c,d⟩=>by subst c;exact b _ _ d)
 |halt x c=>simp at h
def cJ(X:cY)(o:Oper)(st:St)(post:V->St->Prop):Prop:=
 ∀a b c,cj X b c st a->dv X.P o a.eval b.w λu e=>∃v c b d,post v c/\b.w=e/\cj X b d c a/\RV b d v u
def iw(ops:Array Oper)(o:Oper)(st:St):Option Bool:=
 match o.guard with
 |none=>some true
 |some (j,a)=>match(ops[j]?).bind (·.dst)with
  |some g=>match get st.sl g with
   |some (.m (.d (.bool b)))=>some (b==a)
   |some (.m (.c_ []))=>some false
   |_=>none
  |none=>none
def b_{α:Type}(k t:Nat)(v:α)(l:List (Nat×α)):get ((k,v)::l) t=if k=t then some v else get l t:=by
 show(bif Nat.beq k t then some v else get l t)=_;by_cases h:k=t
 .subst h;simp
 .have:Nat.beq k t=false:=by rw[<-aiB];intro e;exact h (agO e)
  rw[this,agw h];rfl
def cj.set{sl:List (Nat×V)}{bx:List (Nat×List M)}{H:Hp}
  (h:cj X σ Li ⟨sl,bx,H⟩ a) (c:d<X.n) (f:RV σ Li v u):cj X σ Li ⟨(d,v)::sl,bx,H⟩ (a.put (some d) u):=by
 refine⟨h.hH,h.defers,?_,?_,h.box,h.nK,h.oA,h.oB,h.hinv,h.mono,h.a_⟩
 .simp[Act.put,h.size]
 .intro t x b;simp only[b_]at b;by_cases e:d=t
  .subst e;simp at b;subst b;refine⟨u,?_,f⟩;simp[Act.put,h.size,c]
  .rw[agw e]at b;obtain⟨g,i,j⟩:=h.slot t x b;refine⟨g,?_,j⟩;simp[Act.put,ahb e,i]
def cj.wanted(h:cj X σ Li st a)
  (c:iw ops o st=some b):Region.wanted o (yielded ops a.tmps)=b:=by
 unfold iw at c;unfold Region.wanted;split at c
 .rename_i f;simp only[f];injection c with e
 .rename_i r i j;simp only[j];split at c
  .rename_i s f;split at c
   .rename_i g k;obtain⟨u,l,n⟩:=h.slot _ _ k;cases n with
    |m p=>cases p with
     |d q=>cases q with
      |bool g=>
       injection c with e
       subst e;simp only[yielded,f,ai5,l];cases g<;>cases i<;>rfl
   .rename_i g;obtain⟨u,k,l⟩:=h.slot _ _ g;cases l with
    |m n=>cases n with
     |c_ p q t v=>
      injection c with e
      subst e;simp only[yielded,f,ai5,k];cases i<;>rfl
   .cases c
  .cases c
def bL{a b:Nat}(h:Nat.blt a b=true):a<b:=by rw[ajr]at h;exact h
def TL.op
  (e:iw ops o st=some true) (f:o.dst=some d) (g:Nat.blt d X.n=true) (h:cJ X o st OR)
  (k:∀v s,OR v s->TL X ops rest ⟨(d,v)::s.sl,s.bx,s.H⟩ post):TL X ops (o::rest) st post:=by
 rintro b w ⟨c,i,rfl,a⟩;unfold wpList;rw[agK (a.wanted e)];refine .inl ((h b c i a).wp ?_);rintro u r ⟨v,s,j,l,m,n,p,q⟩;rw[f];exact k v s m _ _ ⟨j,l,n,p.set (bL g) q⟩
def TL.KN
  (d:iw ops o st=some true) (e:o.dst=none) (h:cJ X o st OR)
  (k:∀v s,OR v s->TL X ops rest s post):TL X ops (o::rest) st post:=by
 rintro b w ⟨c,f,rfl,a⟩;unfold wpList;rw[agK (a.wanted d)];refine .inl ((h b c f a).wp ?_);rintro u n ⟨v,s,g,i,j,l,m,p⟩;rw[e];exact k v s j _ _ ⟨g,i,l,m⟩
def TL.skip
  (a:iw ops o st=some false) (b:o.dst=some d) (c:Nat.blt d X.n=true)
  (k:TL X ops rest ⟨(d,.m (.c_ []))::st.sl,st.bx,st.H⟩ post):TL X ops (o::rest) st post:=by
 intro e w ⟨σ,Li,QA,hi⟩;unfold wpList;rw[agw (by rw[hi.wanted a];simp)];rw[b];exact k _ _ ⟨σ,Li,QA,hi.set (bL c) (.m (.c_ [] #[] W (by intro i m v h;simp at h)))⟩
def TL.nil(h:post st):TL X ops [] st post:=
 λa w a=>⟨rfl,st,h,a⟩
def dm(v:V)(st:St):V->St->Prop:= λa b=>a=v/\b=st
def TL.kz
  (a:iw ops o st=some true) (b:o.dst=some d) (c:Nat.blt d X.n=true) (h:cJ X o st (dm v s))
  (k:TL X ops rest ⟨(d,v)::s.sl,s.bx,s.H⟩ post):TL X ops (o::rest) st post:=
 TL.op a b c h λg i ⟨e,f⟩=>by subst e;subst f;exact k
def TL.Ek
  (a:iw ops o st=some true) (b:o.dst=none) (h:cJ X o st (dm v s))
  (k:TL X ops rest s post):TL X ops (o::rest) st post:=
 TL.KN a b h λe f ⟨c,d⟩=>by subst c;subst d;exact k
def Lq(h:∀b a c,cj X a c st b->∃u,(execOp b.eval o).run X.P a.w=.ok (.value u) a.w/\RV a c v u):
  cJ X o st (dm v st):=by
 intro d a b c;obtain⟨u,e,f⟩:=h d a b c;exact dv.value e ⟨v,st,a,b,⟨W,W⟩,W,c,f⟩
def s4{v:Value}{d:D}(h:oz v=some d):gI O w d v:=by
 unfold oz at h;split at h<;>first
  |(injection h with h;subst h;constructor)
  |cases h
def rF{O:Nat->Nat->Prop}{w:World} :∀{a:List Value} {ds:List D},j9 a=some ds->
  a.length=ds.length/\∀(i:Nat) d v,ds[i]?=some d->a[i]?=some v->gI O w d v
 |[],ds,h=>by simp[j9]at h;subst h;simp
 |v::r,ds,h=>by
  simp only[j9]at h;split at h
  .rename_i d l c e;injection h with h;subst h
   obtain⟨f,g⟩:=rF (O:=O) (w:=w) e;refine⟨by simp[f],λi j k a b=>?_⟩;cases i with
   |zero=>simp at a b;subst a;subst b;exact s4 c
   |succ i=>simp at a b;exact g i j k a b
  .cases h
def yS{v:Value}{d:D}(h:oz v=some d):flat v=true:=by
 unfold oz at h;split at h<;>first|rfl|cases h
def pU:∀{a:List Value} {ds:List D},j9 a=some ds->∀(i:Nat) (v:Value),a[i]?=some v->flat v=true
 |[],ds,h,i,v,a=>by simp at a
 |x::r,ds,h,i,v,a=>by
  simp only[j9]at h;split at h
  .rename_i d e b c;cases i with
   |zero=>simp at a;subst a;exact yS b
   |succ i=>simp at a;exact pU c i v a
  .cases h
def eW{v:Value}{d:D}(h:oX v=some d):gI O w d v:=by
 unfold oX at h;split at h
 .rename_i b;cases a:j9 b.toList with
  |none=>simp[a]at h
  |some c=>
   simp[a]at h;subst h;obtain⟨e,f⟩:=rF (O:=O) (w:=w) a;exact .agg c b (by simpa using e) (λi v b=>pU a i v (by simpa using b)) (λi d v b a=>f i d v b (by simpa using a))
 .exact s4 h
def cj.ev(h:cj X σ Li st a)(b:st.ev x=some v):
  RV σ Li v (a.eval x):=by
 cases x with
 |tmp t=>
  obtain⟨u,e,f⟩:=h.slot t v b;have:a.eval (.tmp t)=u:=by simp[Act.eval,e]
  rw[this];exact f
 |const c=>
  simp only[St.ev,bj]at b;cases e:oX c with
  |none=>simp[e]at b
  |some d=>simp[e]at b;subst b;exact .m (.d (eW e))
 |func f=>
  simp only[St.ev,bj]at b;injection b with b;subst b
  exact .m (.d (.fn f [] #[] W (by simp)))
 |global g=>simp[St.ev,bj]at b
section ops
variable{X:cY}{st:St}{dst:Option Nat}{ty:Nat}{pos:String}{af:Array Edge}{g:Option (Nat×Bool)}
def wU(a:st.ev x=some v):cJ X ⟨dst,.move x,ty,pos,af,g⟩ st (dm v st):=
 Lq λb b b b=>⟨_,by simp[execOp],b.ev a⟩
def rT(a:st.ev x=some v):cJ X ⟨dst,.assign x,ty,pos,af,g⟩ st (dm v st):=
 Lq λb b b b=>⟨_,by simp[execOp],b.ev a⟩
def cj.mz(h:cj X σ Li st a){d:D}(b:st.ev x=some (.m (.d d))):
  gI σ.O σ.w d (a.eval x):=by
 have:=h.ev b;cases this with
 |m h=>cases h with
  |d h=>exact h
def cj.wB(h:cj X σ Li st a)(c:st.ev x=some (.m (.d (.bool b)))):
  a.eval x=.bool b:=by
 have:=h.mz c;generalize a.eval x=u at*;cases this;rfl
def cj.jF(h:cj X σ Li st a)(b:st.ev x=some (.m (.d (.int k n)))):
  a.eval x=.int k n:=by
 have:=h.mz b;generalize a.eval x=u at*;cases this;rfl
def cj.o0(h:cj X σ Li st a){s:ByteArray}(b:st.ev x=some (.m (.d (.str s)))):
  a.eval x=.string s:=by
 have:=h.mz b;generalize a.eval x=u at*;cases this;rfl
def rU(b:st.ev c=some (.m (.d (.bool true))))(d:st.ev x=some v):
  cJ X ⟨dst,.pick c x y,ty,pos,af,g⟩ st (dm v st):=
 Lq λa a a a=>⟨_,by simp[execOp,a.wB b,asBool],a.ev d⟩
def rV(b:st.ev c=some (.m (.d (.bool false))))(d:st.ev y=some v):
  cJ X ⟨dst,.pick c x y,ty,pos,af,g⟩ st (dm v st):=
 Lq λa a a a=>⟨_,by simp[execOp,a.wB b,asBool],a.ev d⟩
def lC:BinOp->IntKind->Int->Int->Option D
 |.add,k,a,b=>some (.int k (k.wrap (a+b)))
 |.sub,k,a,b=>some (.int k (k.wrap (a-b)))
 |.mul,k,a,b=>some (.int k (k.wrap (a*b)))
 |.eql,_,a,b=>some (.bool (a==b))
 |.neq,_,a,b=>some (.bool (a !=b))
 |.lss,_,a,b=>some (.bool (decide (a<b)))
 |.leq,_,a,b=>some (.bool (decide (a<=b)))
 |.gtr,_,a,b=>some (.bool (decide (a>b)))
 |.geq,_,a,b=>some (.bool (decide (a>=b)))
 |_,_,_,_=>none
def s5{op:BinOp}{r:D}(c:st.ev x=some (.m (.d (.int k m))))(d:st.ev y=some (.m (.d (.int k n))))
  (a:lC op k m n=some r):cJ X ⟨dst,.binOp op xt x y yt,ty,pos,af,g⟩ st (dm (.m (.d r)) st):=by
 refine Lq λh i j b=>?_
 have e:=b.jF c;have f:=b.jF d;cases op<;>simp only[lC]at a<;>first|(injection a with a;subst a;refine⟨_,by simp[execOp,e,f,eqGuard,binOp,Op.intArith,Op.intCmp];rfl,?_⟩;exact .m (.d (by constructor)))|cases a
def Iw(b:st.ev x=some (.m (.d (.int k m))))(c:st.ev y=some (.m (.d (.int k n))))
  (d:(n==0)=false):cJ X ⟨dst,.binOp .quo xt x y yt,ty,pos,af,g⟩ st (dm (.m (.d (.int k (k.wrap (m.tdiv n))))) st):=by
 refine Lq λe f h a=>?_
 have e:=a.jF b;have b:=a.jF c;have a:¬n=0:=by simpa using d
 exact⟨_,by simp[execOp,e,b,eqGuard,binOp,Op.intDiv,a];rfl,.m (.d (by constructor))⟩
def El(b:st.ev x=some (.m (.d (.int k m))))(c:st.ev y=some (.m (.d (.int k n))))
  (d:(n==0)=false):cJ X ⟨dst,.binOp .rem xt x y yt,ty,pos,af,g⟩ st (dm (.m (.d (.int k (m.tmod n)))) st):=by
 refine Lq λe f h a=>?_
 have e:=a.jF b;have b:=a.jF c;have a:¬n=0:=by simpa using d
 exact⟨_,by simp[execOp,e,b,eqGuard,binOp,Op.intDiv,a];rfl,.m (.d (by constructor))⟩
def AJ(a:st.ev x=some (.m (.d (.bool b)))):cJ X ⟨dst,.unOp .not xt x,ty,pos,af,g⟩ st (dm (.m (.d (.bool (!b)))) st):=by
 refine Lq λd e f c=>?_
 have d:=c.wB a;exact⟨_,by simp[execOp,d,Op.unary];rfl,.m (.d (by constructor))⟩
def pV(a b:ByteArray):(a.toList==b.toList)=decide (a=b):=by
 rw[Bool.eq_iff_iff];simp;constructor
 .intro h;have:a.data.toList=b.data.toList:=by
   rw[ByteArray.toList_eq,ByteArray.toList_eq]at h;exact h
  cases a;cases b;simp at this;simp[this]
 .rintro rfl;rfl
end ops
end Go.Mt
namespace Go.Mt
variable{x y:Operand}{t o b off n s f i xt yt e:Nat}{w w':World}{P:Program}{σ:Sg}{d:D}{cs ds:List D}{v:Value}{O:Nat->Nat->Prop}{u:ByteArray}{X:cY}{st:St}
structure fS(w w':World):Prop where
 os:w'.os=w.os
 output:w'.output=w.output
 tape:w'.tape=w.tape
 size:w.heap.size<=w'.heap.size
 a_:∀b,b<w.heap.size->w'.heap[b]?=w.heap[b]?
def fS.alloc(w:World)(o:Obj):fS w {w with heap:=w.heap.push o} :=
 ⟨rfl,rfl,rfl,by simp,λb a=>by simp[ahU];omega⟩
def fS.drew(w:World):fS w {w with drawn:=w.drawn+1} :=⟨rfl,rfl,rfl,ags _,λ_ _=>rfl⟩
def fD{x:Obj}(h:w.heap[b]?=some x):b<w.heap.size:=by
 rcases agJ b w.heap.size with a|a
 .exact a
 .simp[agX a]at h
def kC(h:d_ w b o=some v):b<w.heap.size:=by
 unfold d_ World.cell? at h;cases a:w.heap[b]? with
 |none=>simp[a]at h
 |some x=>exact fD a
def lD(h:w'.heap[b]?=w.heap[b]?):d_ w' b o=d_ w b o:=by
 unfold d_ World.cell?;rw[h]
def fS.cell(h:fS w w')(a:d_ w b o=some v):d_ w' b o=some v:=by
 rw[lD (h.a_ b (kC a))];exact a
def fS.heap(h:fS w w'){x:Obj}(a:w.heap[b]?=some x):w'.heap[b]?=some x:=by
 rw[h.a_ b (fD a)];exact a
def db.ext(h:fS σ.w w'):db σ {σ with w:=w'} :=
 ⟨λb o v a c=>⟨h.cell a,c⟩,λi c a=>⟨⟨c,a⟩,rfl⟩,λi c a=>⟨⟨c,a⟩,rfl⟩,λi c a=>⟨⟨c,a⟩,rfl⟩,λi a=>a,
 λi e a d c a=>.inr ⟨e,d,c,a,ags _,λ_=>⟨rfl,rfl,λc T a=>⟨c,h.heap a,rfl⟩⟩⟩,λ_ h=>⟨_,h⟩⟩
def fJ.fT{τ:Sg}(a:db σ τ){ob:Ob}(d:∀x,σ.w.heap[b]?=some x->τ.w.heap[b]?=some x)(h:fJ σ b ob):fJ τ b ob:=by
 cases ob with
 |box j=>obtain⟨i,T,f,g⟩:=h;exact⟨i,T,d _ f,g.mono a⟩
 |row t r s q=>obtain⟨j,o,T,p,n,g,i,k,l,f⟩:=h;exact⟨j,o,T,p,n,d _ g,i,k,l,λi m v d b=>⟨(f i m v d b).1.mono a,(f i m v d b).2⟩⟩
 |map n=>obtain⟨k,l,e,c,f,g,j,i⟩:=h;exact⟨k,l,e,c,d _ f,g,λi e u d b=>(j i e u d b).up λv d=>d.mono a,i⟩
 |iter x=>
  rcases h with⟨i,s,j,l,f,g⟩|⟨m,T,f,g⟩
  .exact .inl ⟨i,s,j,l,d _ f,g.imp (λh=>⟨h.1,h.2.mono a⟩) λh=>⟨h.1.mono a,h.2⟩⟩
  .exact .inr ⟨m,T,d _ f,g.mono a⟩
 |dead=>trivial
 |free=>trivial
def ie.ext{a:Nat->Nat->Prop}(hi:ie σ a)(h:fS σ.w w'):ie {σ with w:=w'} a:=
 ⟨λi a c=>(hi.obj i a c).fT (db.ext h) (λx a=>h.heap a),hi.inj,hi.own,hi.sep,λb o a=>ahY (hi.iG b o a) h.size⟩
def bT.ext(h:fS σ.w w'):bT σ {σ with w:=w'} :=
 ⟨h.os,h.output,h.tape,h.size,λb a _=>h.a_ b a,λi a c d=>.inr ⟨a,c,d,rfl⟩⟩
def cj.ext{Li:Nat->Nat}{a:Act}(hi:cj X σ Li st a)(h:fS σ.w w'):
  cj X {σ with w:=w'} Li st a:=
 ⟨hi.hH,hi.defers,hi.size,λt v b=>let⟨u,c,d⟩:=hi.slot t v b;⟨u,c,d.mono (db.ext h)⟩,
 λt c b=>(hi.box t c b).fT (db.ext h) (λx b=>h.heap b),hi.nK,hi.oA,hi.oB,hi.hinv.ext h,
 hi.mono.trans (db.ext h),hi.a_.trans (bT.ext h)⟩
def cJ.grow{o:Oper}{v:V}(h:∀c a d,cj X a d st c->∃u b,(execOp c.eval o).run X.P a.w=.ok (.value u) b/\fS a.w b/\RV {a with w:=b} d v u):
  cJ X o st (dm v st):=by
 intro d a b c;obtain⟨u,e,f,g,i⟩:=h d a b c;exact dv.value f ⟨v,st,{a with w:=e},b,⟨rfl,rfl⟩,rfl,c.ext g,i⟩
def Em(O:Nat->Nat->Prop)(w:World)(ds:List D)(a:Array Value):Prop:=
 a.size=ds.length/\∀(i:Nat) (d:D) (v:Value),ds[i]?=some d->a[i]?=some v->gI O w d v
def Jk(O:Nat->Nat->Prop)(w:World)(ds:List D)(a:Array Value):Prop:=
 a.size=ds.length/\∀(i:Nat) (d:D) (v:Value),ds[i]?=some d->a[i]?=some v->gI O w d v/\flat v=true
def gI.cells(h:gI O w d v):Jk O w (bP d) v.cells:=by
 cases h with
 |agg c e a b h=>exact⟨a,λi d v c a=>⟨h i d v c a,b i v a⟩⟩
 |_=>
  refine⟨W,λi c e a b=>?_⟩;cases i with
  |zero=>simp[bP,Value.cells]at a b;subst a;subst b;exact⟨by constructor<;>assumption,rfl⟩
  |succ i=>simp[bP]at a
def M.s6:M->Bool
 |.undef=>false
 |.c_ _=>false
 |_=>true
variable{m:M}
def RM.cells(h:RM σ m v)(e:m.s6=true):jh σ (cellsOf m) v.cells:=by
 have a:∀(m:M) (v:Value),RM σ m v->flat v=true->jh σ [m] #[v]:=by
  intro m v h g;refine⟨W,λi j k c f=>?_⟩;cases i with
  |zero=>simp at c f;subst c;subst f;exact⟨h,g⟩
  |succ i=>simp at c
 cases h with
 |d h=>
  have c:=h.cells;refine⟨by simp[cellsOf,c.1],λi m v f g=>?_⟩;simp only[cellsOf,ahh,agU]at f;obtain⟨d,j,rfl⟩:=f;exact⟨.d (c.2 i d v j g).1,(c.2 i d v j g).2⟩
 |agg g i f c h=>exact⟨f,λi d v e a=>⟨h i d v e a,c i v a⟩⟩
 |ref i f c h=>exact a _ _ (.ref i f c h) W
 |cy i j k c l f g=>exact a _ _ (.cy i j k c l f g) W
 |cF i g j b c f=>exact a _ _ (.cF i g j b c f) W
 |mp i c h=>exact a _ _ (.mp i c h) W
 |it i x h=>exact a _ _ (.it i x h) W
 |fn f c g j i h=>exact a _ _ (.fn f c g j i h) W
 |ww f g c i k j h=>exact a _ _ (.ww f g c i k j h) W
 |c_ c f g h=>simp[M.s6]at e
 |undef v=>simp[M.s6]at e
def wV(w:World)(arr:Array Value)(T:Nat)(a:Nat×Nat)(i:Nat):d_ {w with heap:=w.heap.push (.cells arr T a)} w.heap.size i=arr[i]?:=by
 simp[d_,World.cell?]
def gI.Ix{arr:Array Value}{T:Nat}(c:∀b o,O b o->b<w.heap.size)(h:Jk O w ds arr):
  gI O {w with heap:=w.heap.push (.cells arr T (0,0))} (.ca ds 0) (.pointer (some ⟨w.heap.size,0,none⟩)):=by
 refine gI.ca ds 0 w.heap.size 0 (λi=>arr.getD i undef) ?_ ?_ ?_
 .intro i a;refine⟨?_,λa=>by have:=c _ _ a;omega⟩;rw[ahq,wV];have:i<arr.size:=by rw[h.1];exact a
  simp[this]
 .intro i a;have e:i<arr.size:=by rw[h.1];exact a
  have f:arr[i]?=some (arr.getD i undef):=by simp[e]
  exact(h.2 i ds[i] _ (by simp[a]) f).2
 .intro i d a;have e:i<arr.size:=by rw[h.1];rcases agJ i ds.length with h|h;exact h;simp[agD h]at a
  have:=(h.2 i d (arr.getD i undef) a (by simp[e])).1;exact this.mono λb o v c a=>⟨(fS.alloc w _).cell c,a⟩
section ops
variable{X:cY}{st:St}{dst:Option Nat}{ty:Nat}{pos:String}{af:Array Edge}{g:Option (Nat×Bool)}
def Eo(b:st.ev x=some (.m (.d d))):
  cJ X ⟨dst,.box t x,ty,pos,af,g⟩ st (dm (.m (.d (.ca (bP d) 0))) st):=by
 refine cJ.grow λc e f a=>?_
 have h:=(a.mz b).cells;exact⟨_,_,by simp[execOp,Instr.box,newVar,newRow,newObj,Sem.run];rfl,fS.alloc _ _,.m (.d (gI.Ix a.hinv.Ej h))⟩
class dw(P:Program)(t:Nat)(n:outParam Nat):Prop where
 agg:rS P t=some true
 size:ij P t=some n
class cc(P:Program)(t:Nat)(n:outParam Nat):Prop where
 size:ij P t=some n
class fC(P:Program)(t:Nat)(z:outParam D):Prop where
 zero:oY P t=some z
class cT(P:Program)(t:Nat):Prop where
 cell:rS P t=some false
def cT.run(h:cT P t)(w:World):(isAgg t).run P w=.ok false w:=by
 have:=h.cell;unfold rS at this;unfold isAgg underlying;simp[program,Sem.run];cases a:P.underlying t with
 |none=>simp[a]at this
 |some d=>cases d<;>simp_all
def dw.run(h:dw P t n)(w:World):(isAgg t).run P w=.ok true w:=by
 have:=h.agg;unfold rS at this;unfold isAgg underlying;simp[program,Sem.run];cases a:P.underlying t with
 |none=>simp[a]at this
 |some d=>cases d<;>simp_all
def dr(h:ij P t=some n)(w:World):(sizeOf t).run P w=.ok n w:=by
 unfold ij at h;unfold sizeOf typeInfo;simp[program,Sem.run];cases a:P.info? t with
 |none=>simp[a]at h
 |some d=>simp[a]at h;simp[h]
def j_(b o n:Nat):(⟨b,o,none⟩:Addr).add n=⟨b,o+n,none⟩:=by
 unfold Addr.add;split
 .rename_i h;subst h;rfl
 .rfl
def wW(h:d_ w b o=some v):(load ⟨b,o,none⟩).run P w=.ok v w:=by
 unfold d_ at h;simp[h]
def jk{a:Array Value} :∀(n i:Nat) (acc:Array Value),i+n=a.size->acc=a.extract 0 i->
  (∀j,j<a.size->d_ w b (o+j)=some (a.getD j undef))->(loadCellsFrom ⟨b,o,none⟩ i n acc).run P w=.ok a w
 |0,i,acc,d,c,_=>by
  have:i=a.size:=by omega
  subst this;simp[loadCellsFrom,c]
 |n+1,i,acc,m,e,c=>by
  have d:i<a.size:=by omega
  rw[loadCellsFrom];simp only[j_,Sem.run_bind,wW (c i d),Result.andThen_ok];refine jk n (i+1) _ (by omega) ?_ c;rw[e];apply ait;intro k;simp[ahU,ahC];have:i<=a.size:=by omega
  rcases Nat.lt_trichotomy k i with h|h|h
  .have f:k<min i a.size:=by omega
   have g:¬k=min i a.size:=by omega
   have l:k<min (i+1) a.size:=by omega
   simp[g,f,l]
  .subst h;simp[ahN this,d];omega
  .have f:¬k=min i a.size:=by omega
   have g:¬k<min (i+1) a.size:=by omega
   have l:¬k<min i a.size:=by omega
   simp[f,g,l]
def jG{α:Type}(l:List α)(off n i:Nat)(hi:i<n):((l.drop off).take n)[i]?=l[off+i]?:=by
 rw[ais hi,ahP]
def wX{c:Nat->Value}(e:pT P t cs off=some d)
  (k:∀i,i<cs.length->d_ w b (o+i)=some (c i)/\¬O b (o+i)) (r:∀i,i<cs.length->flat (c i)=true) (l:∀i d,cs[i]?=some d->gI O w d (c i)):
  ∃u,(Instr.loadAt t (.pointer (some ⟨b,o+off,none⟩))).run P w=.ok u w/\gI O w d u:=by
 unfold pT at e;split at e
 .rename_i n s m;cases f:Nat.ble (off+n) cs.length with
  |false=>simp[f]at e
  |true=>
   simp only[f,ag6,ahl]at e;subst e;have z:off+n<=cs.length:=agT f;have x:dw P t n:=⟨s,m⟩
   let a:Array Value:=((List.range n).map λi=>c (off+i)).toArray
   have p:a.size=n:=by simp[a]
   have y:(loadCellsFrom ⟨b,o+off,none⟩ 0 n #[]).run P w=.ok a w:=by
    refine jk n 0 _ (by omega) (by simp) ?_;intro j g;rw[p]at g;have:a.getD j undef=c (off+j):=by simp[a,g]
    rw[this,ahR];exact(k (off+j) (by omega)).1
   refine⟨.agg a,?_,.agg _ a ?_ ?_ ?_⟩
   .simp[Instr.loadAt,Instr.sureAddr,loadVar,x.run,dr m,loadCells,y]
   .simp[p];omega
   .intro i v g;have j:i<n:=by
     rcases agJ i n with h|h
     .exact h
     .simp[agX (show a.size<=i by omega)]at g
    have:v=c (off+i):=by simp[a,j]at g;exact g.symm
    subst this;exact r _ (by omega)
   .intro i d v q g;have j:i<n:=by
     rcases agJ i n with h|h
     .exact h
     .simp[agX (show a.size<=i by omega)]at g
    rw[jG cs off n i j]at q;have:v=c (off+i):=by simp[a,j]at g;exact g.symm
    subst this;exact l _ _ q
 .rename_i a;have f:cT P t:=⟨a⟩;have g:off<cs.length:=by
   rcases agJ off cs.length with h|h
   .exact h
   .simp[agD h]at e
  refine⟨c off,?_,l off d e⟩;have h:w.cell? ⟨b,o+off,none⟩=some (c off):=(k off g).1;simp[Instr.loadAt,Instr.sureAddr,loadVar,f.run,h]
 .cases e
def uw(c:st.ev x=some (.m (.d (.ca cs off))))(e:pT X.P t cs off=some d):
  cJ X ⟨dst,.load t x,ty,pos,af,g⟩ st (dm (.m (.d d)) st):=by
 refine Lq λa o q f=>?_
 have h:=f.mz c;generalize i:a.eval x=u at h;cases h with
 |ca cs off b p r j k l=>
  obtain⟨u,m,n⟩:=wX e j k l;exact⟨u,by simp[execOp,i,m],.m (.d n)⟩
def rW[ht:cT X.P t](a:st.ev x=some (.m (.d (.ca cs off))))(b:cs[off]?=some d):
  cJ X ⟨dst,.load t x,ty,pos,af,g⟩ st (dm (.m (.d d)) st):=
 uw a (by simp[pT,ht.cell,b])
def rX[ht:dw X.P t n](a:st.ev x=some (.m (.d (.ca cs 0))))(b:cs.length=n):
  cJ X ⟨dst,.load t x,ty,pos,af,g⟩ st (dm (.m (.d (.agg cs))) st):=by
 refine uw a ?_;subst b;simp only[pT,ht.agg,ht.size,ahq];have:Nat.ble cs.length cs.length=true:=agV (ags _);simp[this]
def o4[ht:dw X.P t n](a:st.ev x=some (.m (.d (.ca cs off))))(b:Nat.ble (off+n) cs.length=true)(c:(cs.drop off).take n=ds):
  cJ X ⟨dst,.load t x,ty,pos,af,g⟩ st (dm (.m (.d (.agg ds))) st):=by
 refine uw a ?_;simp[pT,ht.agg,ht.size,b,c]
class aS(P:Program)(s f:Nat)(off:outParam Nat):Prop where
 run:∀(b o:Nat) (w:World),(Instr.fieldAt s (.pointer (some ⟨b,o,none⟩)) f).run P w=.ok (.pointer (some ⟨b,o+off,none⟩)) w
def rY(P:Program)(s f off:Nat):Bool:=
 match P.underlying s with
 |some (.struct a)=>match a[f]? with
  |some a=>match ij P a.type with
   |some n=>n !=0&&a.offset==off
   |none=>false
  |none=>false
 |_=>false
theorem aH(h:rY P s f off=true):aS P s f off:=by
 constructor;intro b o w;unfold rY at h;split at h
 .rename_i g a;split at h
  .rename_i e c;split at h
   .rename_i n d;simp at h;simp[Instr.fieldAt,underlying,program,Sem.run,a,c,Instr.sureAddr,fieldPlace,dr d,h.1,j_,h.2]
   .cases h
  .cases h
 .cases h
def rZ(c:st.ev x=some (.m (.d (.ca cs off))))[d:aS X.P s f o]:
  cJ X ⟨dst,.fieldAddr s x f,ty,pos,af,g⟩ st (dm (.m (.d (.ca cs (off+o)))) st):=by
 refine Lq λa p q e=>?_
 have h:=e.mz c;generalize i:a.eval x=u at h;cases h with
 |ca cs off b j n k l m=>
  refine⟨_,by simp only[execOp,i];simp[d.run];rfl,.m (.d ?_)⟩;rw[ahR];exact .ca cs (off+o) b j n k l m
def r_(b:st.ev x=some (.loc t off))[c:aS X.P s f o]:
  cJ X ⟨dst,.fieldAddr s x f,ty,pos,af,g⟩ st (dm (.loc t (off+o)) st):=by
 refine Lq λa i j d=>?_
 have h:=d.ev b;generalize e:a.eval x=u at h;cases h with
 |loc t off=>exact⟨_,by simp only[execOp,e];simp[c.run],.loc t (off+o)⟩
def sd(b:st.ev x=some (.m (.ref i off)))[c:aS X.P s f o]:
  cJ X ⟨dst,.fieldAddr s x f,ty,pos,af,g⟩ st (dm (.m (.ref i (off+o))) st):=by
 refine Lq λa l n d=>?_
 have h:=d.ev b;generalize e:a.eval x=u at h;cases h with
 |m h=>cases h with
  |ref i off j k=>exact⟨_,by simp only[execOp,e];simp[c.run],.m (.ref i (off+o) j k)⟩
def sg{a:Nat}(d:st.ev x=some (.m (.cF i a off)))[e:aS X.P s f o]:
  cJ X ⟨dst,.fieldAddr s x f,ty,pos,af,g⟩ st (dm (.m (.cF i a (off+o))) st):=by
 refine Lq λc p q j=>?_
 have h:=j.ev d;generalize k:c.eval x=u at h;cases h with
 |m h=>cases h with
  |cF i a off b l n=>exact⟨_,by simp only[execOp,k];simp[e.run],.m (.cF i a (off+o) b l n)⟩
def si:V->Bool
 |.m (.d (.ca _ _))=>true
 |.m (.ref _ _)=>true
 |.m (.cF _ _ _)=>true
 |.loc _ _=>true
 |.m (.d (.fn _ _))=>true
 |.m (.fn _ _)=>true
 |_=>false
def o5{v:V}(e:st.ev x=some v)(a:si v=true):
  cJ X ⟨dst,.nilCheck x,ty,pos,af,g⟩ st (dm v st):=by
 refine Lq λc i j f=>?_
 have h:=f.ev e;refine⟨c.eval x,?_,h⟩;generalize b:c.eval x=u at h;cases h with
 |loc t k=>simp[execOp,b]
 |tl _ _ _ _ _ _ _ _=>simp[si]at a
 |m h=>cases h with
  |d h=>cases h<;>simp[si]at a<;>simp[execOp,b]
  |_=>first|(simp[si]at a;done)|simp[execOp,b]
def oc:D->Option Nat
 |.sl a=>some a.length
 |.oa=>some 0
 |_=>none
class br(P:Program)(t:Nat)(e:outParam Nat):Prop where
 u:P.underlying t=some (.slice e)
class AK(P:Program)(t:Nat):Prop where
 u:P.underlying t=some .string
def wY(c:st.ev x=some (.m (.d d)))[ht:br X.P t e](a:oc d=some n):
  cJ X ⟨dst,.call ⟨.builtin .len,#[x],#[t]⟩,ty,pos,af,g⟩ st (dm (.m (.d (.int .i64 n))) st):=by
 refine Lq λb j k f=>?_
 have h:=f.mz c;generalize i:b.eval x=u at h;refine⟨.int .i64 n,?_,.m (.d (.int _ _))⟩;cases h<;>simp[oc]at a<;>subst a<;>simp[execOp,resolve,invoke,builtin,Builtin.len_,underlying,program,Sem.run,ht.u,i,goInt]
def wZ{rows:List (List D)}{r:List D}{k:IntKind}{i:Int}(p:st.ev x=some (.m (.d (.sl rows))))(q:st.ev y=some (.m (.d (.int k i))))
  [ht:br X.P t e] [s:cc X.P e n] (u:0<=i) (a:rows[i.toNat]?=some r) (v:r.length=n):
  cJ X ⟨dst,.indexAddr t x y,ty,pos,af,g⟩ st (dm (.m (.d (.ca r 0))) st):=by
 refine Lq λj K M l=>?_
 have h:=l.mz p;have w:=l.jF q;generalize z:j.eval x=L at h;have c:i.toNat<rows.length:=by
  rcases agJ i.toNat rows.length with h|h
  .exact h
  .simp[agD h]at a
 cases h with
 |slnil j=>simp at c
 |sl rows b o Q f J N O P A B C E=>
  have F:r∈rows:=agN a;have G:f=n:=by rw[<-A r F];exact v
  subst G;have H:i<(rows.length:Int):=by omega
  refine⟨.pointer (some ⟨b,o+i.toNat*f+0,none⟩),?_,.m (.d (.ca r 0 b (o+i.toNat*f) (λj=>J i.toNat j) ?_ ?_ ?_))⟩
  .simp[execOp,z,w,Instr.indexAt,asIntOf,underlying,program,Sem.run,ht.u,dr s.size,u,H,j_]
  .intro m I;have:=B i.toNat m c (by omega);simpa [ahR] using this
  .intro m I;exact C i.toNat m c (by omega)
  .intro m d I;exact E i.toNat m r d a I
def zo{s:ByteArray}(b:st.ev x=some (.m (.d (.str s))))(c:st.ev y=some (.m (.d (.str u)))):
  cJ X ⟨dst,.binOp .eql xt x y yt,ty,pos,af,g⟩ st (dm (.m (.d (.bool (decide (s=u))))) st):=by
 refine Lq λd e f a=>?_
 exact⟨_,by simp only[execOp,a.o0 b,a.o0 c,eqGuard,binOp,Op.stringOp,pV];simp,.m (.d (.bool _))⟩
def E'{s:ByteArray}(b:st.ev x=some (.m (.d (.str s))))(c:st.ev y=some (.m (.d (.str u)))):
  cJ X ⟨dst,.binOp .neq xt x y yt,ty,pos,af,g⟩ st (dm (.m (.d (.bool (!decide (s=u))))) st):=by
 refine Lq λd e f a=>?_
 exact⟨_,by simp only[execOp,a.o0 b,a.o0 c,eqGuard,binOp,Op.stringOp,pV];simp,.m (.d (.bool _))⟩
def w_{s:ByteArray}(b:st.ev x=some (.m (.d (.str s))))(c:st.ev y=some (.m (.d (.str u))))(a:s.size+u.size<=9223372036854775807):
  cJ X ⟨dst,.binOp .add xt x y yt,ty,pos,af,g⟩ st (dm (.m (.d (.str (s++u)))) st):=by
 refine Lq λd e f a=>?_
 have:¬((s.size+u.size:Nat):Int)>IntKind.i64.max:=by
  have:IntKind.i64.max=9223372036854775807:=by decide
  omega
 exact⟨_,by simp only[execOp,a.o0 b,a.o0 c,eqGuard,binOp,Op.stringOp];simp only[agw this];simp,.m (.d (.str _))⟩
def pW{a:List M}(f:st.ev x=some (.m (.c_ a)))(b:a[i]?=some m):
  cJ X ⟨dst,.extract x i,ty,pos,af,g⟩ st (dm (.m m) st):=by
 refine Lq λe o p j=>?_
 have h:=j.ev f;generalize k:e.eval x=u at h;cases h with
 |m h=>cases h with
  |c_ q c l n=>
   have d:i<c.size:=by
    rw[l];rcases agJ i a.length with h|h;exact h;simp[agD h]at b
   exact⟨c[i],by simp[execOp,k,Instr.extract,d],.m (n i m _ b (by simp[d]))⟩
end ops
end Go.Mt
namespace Go.Mt
variable{σ:Sg}{X:cY}{st:St}{P:Program}{f:Nat}{ds:List D}{cs ms:List M}{m:M}{Li:Nat->Nat}{a:Act}{post:M->Hp->Prop}{H:Hp}{vs:Array Value}{fn:Func}
def TC.cond{post:Exit->St->Prop}{c:Operand}{x y:Code}{b:Bool}(g:st.ev c=some (.m (.d (.bool b))))
  (ht:b=true->TC X x st post) (h:b=false->TC X y st post):TC X (.cond c x y) st post:=by
 rintro d w ⟨e,f,rfl,a⟩;refine wp_cond (a.wB g) ?_;cases b
 .exact h W d _ ⟨e,f,W,a⟩
 .exact ht W d _ ⟨e,f,W,a⟩
def mi:List M->M
 |[m]=>m
 |ms=>.c_ ms
def CT(P:Program)(f:Nat)(ms:List M)(H:Hp)(post:M->Hp->Prop):Prop:=
 ∀(a:Sg) (c:Nat->Nat->Prop) (b:Array Value),ie a c->a.H=H->nC a ms b->Calls P f b a.w λe d=>∃v r b,e=.returned v/\b.w=d/\post r b.H/\ie b c/\RM b r v/\db a b/\bT a b
def PT(P:Program)(f:Nat)(ds:List D)(post:List D->Prop):Prop:=
 ∀(O:Nat->Nat->Prop) (w:World) (a:Array Value),(∀b o,O b o->b<w.heap.size)->Em O w ds a->Calls P f a w λe a=>∃v r,e=.returned v/\post r/\fS w a/\RM ⟨a,O,λ_=>0,[]⟩ (mi (r.map .d)) v
def CT.mono{a:M->Hp->Prop}(h:CT P f ms H post)(g:∀r g,post r g->a r g):CT P f ms H a:=
 λa i j k l m=>(h a i j k l m).mono λe j ⟨v,r,i,a,b,c,d⟩=>⟨v,r,i,a,b,g _ _ c,d⟩
def RM.C1{τ:Sg}{v:Value}(h:RM σ (mi (ds.map .d)) v)(c:∀b o v,d_ σ.w b o=some v->¬σ.O b o->d_ τ.w b o=some v/\¬τ.O b o):
  RM τ (mi (ds.map .d)) v:=by
 match ds,h with
 |[],h=>cases h with
  |c_ e f a h=>exact .c_ _ _ a (by simp)
 |[x],h=>cases h with
  |d h=>exact .d (h.mono c)
 |j::k::l,h=>cases h with
  |c_ p q g n=>
   refine .c_ _ _ g λi m v e o=>?_
   have a:=n i m v e o;have f:((j::k::l).map M.d)[i]?=some m:=e;simp only[ahh,agU]at f;obtain⟨d,_,rfl⟩:=f;cases a with
   |d a=>exact .d (a.mono c)
def Lk{post:List D->Prop}(h:CT P f (ds.map .d) [] λr _=>∃d,r=mi (d.map .d)/\post d):PT P f ds post:=by
 intro O w g l i
 let a:Sg:=⟨w,O,λ_=>0,[]⟩
 have y:ie a O:=⟨by simp[a],by simp[a],by simp[a],by simp[a],l⟩;have n:nC a (ds.map .d) g:=by
  refine⟨by simp[i.1],λk m v j o=>?_⟩;simp only[ahh,agU]at j;obtain⟨d,p,rfl⟩:=j;exact .d (i.2 k d v p o)
 refine(h a O g y W n).mono ?_;rintro e A ⟨v,z,B,q,r,⟨d,s,t⟩,u,x,C,c⟩;subst s;subst r;refine⟨v,d,q,t,⟨c.os,c.output,c.tape,c.size,λb g=>c.a_ b g (by simp[a])⟩,?_⟩;refine x.C1 ?_;exactλb o v a c=>⟨a,λa=>c ((u.own b o).2 (.inl a))⟩
def lV(i:Nat):List M->List (Nat×V)
 |[]=>[]
 |m::r=>(i,.m m)::lV (i+1) r
def sj:∀(ms:List M) (i t:Nat) (v:V),get (lV i ms) t=some v->i<=t/\∃m,ms[t-i]?=some m/\v=.m m
 |[],i,t,v,h=>by simp[lV,get]at h
 |m::r,i,t,v,h=>by
  simp only[lV,b_]at h;by_cases e:i=t
  .subst e;simp at h;subst h;exact⟨ags _,m,by simp,rfl⟩
  .rw[agw e]at h;obtain⟨d,a,b,c⟩:=sj r (i+1) t v h;refine⟨by omega,a,?_,c⟩;have:t-i=(t-(i+1))+1:=by omega
   rw[this];simpa using b
def wC(P:Program)(st:St):ResultVar->Option M
 |.tmp t=>match get st.sl t with
  |some (.m m)=>some m
  |_=>none
 |.cell t T=>match get st.sl t with
  |some (.loc u a)=>match get st.bx u with
   |some cs=>ef P T cs a
   |none=>none
  |some (.m (.d (.ca cs a)))=>(pT P T cs a).map .d
  |some (.m (.ref i a))=>match st.H[i]? with
   |some (.box cs)=>ef P T cs a
   |_=>none
  |_=>none
def nL(P:Program)(st:St):List ResultVar->Option (List M)
 |[]=>some []
 |r::a=>match wC P st r,nL P st a with
  |some m,some ms=>some (m::ms)
  |_,_=>none
def s7(P:Program)(fn:Func)(st:St):Option M:=(nL P st fn.results.toList).map mi
def sn:∀{cs:List M} {ds:List D},fY cs=some ds->cs=ds.map .d
 |[],ds,h=>by simp[fY]at h;subst h;rfl
 |m::r,ds,h=>by
  cases m<;>simp only[fY]at h<;>try (cases h;done)
  rename_i x;cases a:fY r with
  |none=>simp[a]at h
  |some b=>simp[a]at h;subst h;simp[sn a]
def nC.fY(h:nC σ cs vs)(a:fY cs=some ds):Em σ.O σ.w ds vs:=by
 have:=sn a;subst this;refine⟨by simpa using h.1,λi d v b c=>?_⟩;have:=h.2 i (.d d) v (by simp[b]) c;cases this with
 |d h=>exact h
def jh.flat(h:jh σ cs vs):∀(i:Nat) (v:Value),vs[i]?=some v->flat v=true:=by
 intro i v a;have b:i<cs.length:=by
  rw[<-h.1];rcases agJ i vs.size with h|h;exact h;simp[agX h]at a
 exact(h.2 i cs[i] v (by simp[b]) a).2
def mV{t b off:Nat}{arr:Array Value}{T:Nat}{l:Nat×Nat}(a:ef P t cs off=some m)
  (o:σ.w.heap[b]?=some (.cells arr T l)) (w:cs.length<=arr.size) (h:∀(i:Nat) (m:M) (v:Value),cs[i]?=some m->arr[i]?=some v->RM σ m v/\flat v=true):
  ∃u,(loadVar t ⟨b,off,none⟩).run P σ.w=.ok u σ.w/\RM σ m u:=by
 have f:∀i,i<arr.size->d_ σ.w b i=some (arr.getD i undef):=by
  intro i c;simp[d_,World.cell?,o,c]
 unfold ef at a;split at a
 .rename_i n q g;cases e:Nat.ble (off+n) cs.length with
  |false=>simp[e]at a
  |true=>
   simp only[e,ag6,ahl]at a;subst a;have x:off+n<=cs.length:=agT e;have r:dw P t n:=⟨q,g⟩;have k:(arr.extract off (off+n)).size=n:=by simp;omega
   have s:(loadCellsFrom ⟨b,off,none⟩ 0 n #[]).run P σ.w=.ok (arr.extract off (off+n)) σ.w:=by
    refine jk n 0 _ (by omega) (by simp) ?_;intro j d;rw[k]at d;rw[f _ (by omega)];have i:j<min (off+n) arr.size-off:=by omega
    have:off+j<arr.size:=by omega
    simp[i,this]
   have c:jh σ ((cs.drop off).take n) (arr.extract off (off+n)):=by
    refine⟨by rw[k];simp;omega,λi m v j d=>?_⟩;have p:i<n:=by
     rcases agJ i n with h|h
     .exact h
     .rw[agX (by omega)]at d;cases d
    rw[jG cs off n i p]at j;refine h _ _ _ j ?_;rw[ahC]at d;split at d
    .exact d
    .cases d
   refine⟨.agg (arr.extract off (off+n)),by simp[loadVar,r.run,dr g,loadCells,s],?_⟩;unfold pack;split
   .rename_i d i;have j:=c;have:=nC.fY ⟨c.1,λi m v a b=>(c.2 i m v a b).1⟩ i;exact .d (.agg d _ this.1 (c.flat) this.2)
   .exact .agg _ _ c.1 c.flat (λi m v a b=>(c.2 i m v a b).1)
 .rename_i c;have d:cT P t:=⟨c⟩;have g:off<cs.length:=by
   rcases agJ off cs.length with h|h
   .exact h
   .simp[agD h]at a
  have e:σ.w.cell? ⟨b,off,none⟩=some (arr.getD off undef):=f off (by omega);refine⟨arr.getD off undef,by simp[loadVar,d.run,e],(h off m _ a (by simp[show off<arr.size by omega])).1⟩
 .cases a
def o6(tmps:Array Value):ResultVar->Sem Value
 |.tmp t=>pure (tmps.getD t undef)
 |.cell a t=>do loadVar t (<-asAddr (tmps.getD a undef))
def BB(hi:cj X σ Li st a){r:ResultVar}(h:wC X.P st r=some m):
  ∃u,(o6 a.tmps r).run X.P σ.w=.ok u σ.w/\RM σ m u:=by
 unfold wC at h;split at h
 .rename_i t;split at h
  .rename_i g e;injection h with h;subst h
   obtain⟨u,f,c⟩:=hi.slot t _ e;cases c with
   |m c=>exact⟨u,by simp[o6,f],c⟩
  .cases h
 .rename_i t T;split at h
  .rename_i u o e;split at h
   .rename_i i j;obtain⟨x,f,g⟩:=hi.slot t _ e;cases g with
    |loc u o=>
     obtain⟨q,p,k,c⟩:=hi.box u i j;obtain⟨v,l,n⟩:=mV h k (by rw[c.1];exact ags _) c.2;exact⟨v,by simp[o6,f,asAddr,l],n⟩
   .cases h
  .rename_i f i j;obtain⟨x,k,c⟩:=hi.slot t _ j;cases c with
   |m c=>cases c with
    |d c=>cases c with
     |ca f i b q s n o p=>
      cases e:pT X.P T f i with
      |none=>simp[e]at h
      |some d=>
       simp[e]at h;subst h;obtain⟨v,g,l⟩:=wX e n o p;refine⟨v,?_,.d l⟩;simp only[Instr.loadAt,Instr.sureAddr]at g;simpa [o6,k,asAddr] using g
  .rename_i i p f;split at h
   .rename_i j o;obtain⟨x,g,c⟩:=hi.slot t _ f;cases c with
    |m c=>cases c with
     |ref i p s w=>
      obtain⟨y,q,k,e⟩:=hi.hinv.obj i (.box j) (by rw[hi.hH];exact o);obtain⟨v,l,n⟩:=mV h k (by rw[e.1];exact ags _) e.2;exact⟨v,by simp[o6,g,asAddr,l],n⟩
   .cases h
  .cases h
def vA(hi:cj X σ Li st a):∀{rs:List ResultVar} {ms:List M},nL X.P st rs=some ms->
  ∃us:List Value,(rs.mapM (o6 a.tmps)).run X.P σ.w=.ok us σ.w/\nC σ ms us.toArray
 |[],ms,h=>by simp[nL]at h;subst h;exact⟨[],by simp,rfl,by simp⟩
 |r::rs,ms,h=>by
  simp only[nL]at h;split at h
  .rename_i m n e f;injection h with h;subst h
   obtain⟨u,g,j⟩:=BB hi e;obtain⟨us,k,d⟩:=vA hi f;refine⟨u::us,?_,?_⟩
   .rw[aiT];simp only[Sem.run_bind,Sem.run_pure];rw[g];simp only[Result.andThen_ok];rw[k];simp
   .refine⟨by simpa using d.1,λi l v b c=>?_⟩;cases i with
    |zero=>simp at b c;subst b;subst c;exact j
    |succ i=>simp at b c;exact d.2 i l v b (by simpa using c)
  .cases h
def ux(hi:cj X σ Li st a)(h:s7 X.P fn st=some m):
  ∃u,(results fn a.tmps).run X.P σ.w=.ok u σ.w/\RM σ m u:=by
 unfold s7 at h;cases d:nL X.P st fn.results.toList with
 |none=>simp[d]at h
 |some e=>
  simp[d]at h;subst h;obtain⟨c,g,b⟩:=vA hi d;have k:c.length=e.length:=by simpa using b.1
  have i:(results fn a.tmps).run X.P σ.w=.ok (if h:c.toArray.size=1 then c.toArray[0]else .tuple c.toArray) σ.w:=by
   have j:results fn a.tmps=(do let f<-fn.results.mapM (o6 a.tmps);pure (if h:f.size=1 then f[0]else .tuple f)):=by
    unfold results
    congr 1
   rw[j,aiX];simp only[Sem.run_bind,Functor.map];simp only[Sem.run_bind'];rw[g];simp
  rw[i]
  match e,c,b,k with
  |[],[],b,_=>exact⟨_,W,by rw[dif_neg (by simp)];exact .c_ [] #[] W (by simp)⟩
  |[m],[u],b,_=>exact⟨_,W,by simp[mi];exact b.2 0 m u (by simp) (by simp)⟩
  |f::j::e,l::n::c,b,_=>
   refine⟨_,W,?_⟩;rw[dif_neg (by simp)];exact .c_ _ _ b.1 b.2
def pX(P:Program)(fn:Func)(post:M->Hp->Prop):Exit->St->Prop
 |.normal,s=>∃m,s7 P fn s=some m/\post m s.H
 |.ret,s=>∃m,s7 P fn s=some m/\post m s.H
 |_,_=>False
def Lf{c:Code}(z:P.funcs[f]?=some fn)(A:fn.body=some c)
  {n:Nat} (B:fn.ntmps=n) (s:Nat.ble ms.length n=true) (h:∀(a:Sg) (d:Nat->Nat->Prop),TC ⟨P,n,a,d,[]⟩ c ⟨lV 0 ms,[],H⟩ (pX P fn post)):CT P f ms H post:=by
 subst B;replace s:=agT s;intro g i l k C o;refine calls_of_wp z A ?_
 let X:cY:=⟨P,fn.ntmps,g,i,[]⟩
 have L:∀b o,lU i (λ_=>0) [] b o↔i b o:=by intro b y;simp[lU,get]
 have D:cj X g (λ_=>0) ⟨lV 0 ms,[],H⟩ {tmps:=l++Array.replicate (fn.ntmps-l.size) undef,defers:=[]} :=by
  refine⟨C,W,?_,?_,by simp[get],by simp[get],by simp[get],by simp[get],?_,db.refl _,bT.refl _⟩
  .have:=o.1;simp[X];omega
  .intro t v u;obtain⟨_,m,j,rfl⟩:=sj ms 0 t v u;simp at j;have r:t<l.size:=by
    rw[o.1];rcases agJ t ms.length with h|h;exact h;simp[agD h]at j
   exact⟨l[t],by simp[aiz,r],.m (o.2 t m _ j (by simp[r]))⟩
  .exact⟨k.obj,k.inj,λb o=>by rw[k.own];simp[lU,get,X],λi d g a o j=>k.sep i d g a o (by simpa [lU,get] using j),λb o a=>k.iG b o (by simpa [lU,get] using a)⟩
 have G:=h g i _ g.w ⟨g,λ_=>0,rfl,D⟩;refine wp_mono G ?_;rintro e w M ⟨p,q,d,N,rfl,a⟩;have x:(∃m,s7 P fn p=some m/\post m p.H)->w.defers=[]/\∃v,(results fn w.tmps).run P d.w=.ok v d.w/\∃j r a,Ending.returned v=.returned j/\a.w=d.w/\post r a.H/\ie a i/\RM a r j/\db g a/\bT g a:=by
  rintro⟨m,E,t⟩;obtain⟨u,F,I⟩:=ux a E;have r:db d {d with O:= λb o=>i b o\/∃(i:Nat) (a:Ob),d.H[i]?=some a/\d.l i=b/\a.iP o} :=by
   refine⟨λb y v J K=>⟨J,λj=>K ?_⟩,λi d a=>⟨⟨d,a⟩,rfl⟩,λi d a=>⟨⟨d,a⟩,rfl⟩,λi d a=>⟨⟨d,a⟩,rfl⟩,λi a=>a,λi i a g d a=>.inr ⟨i,g,d,a,ags _,λ_=>⟨rfl,rfl,λd T a=>⟨d,a,rfl⟩⟩⟩,λ_ h=>⟨_,h⟩⟩;rw[a.hinv.own];rcases j with j|j
   .exact .inl (.inl j)
   .exact .inr j
  refine⟨a.defers,u,F,u,m,{d with O:= λb o=>i b o\/∃(i:Nat) (a:Ob),d.H[i]?=some a/\d.l i=b/\a.iP o},rfl,rfl,by rw[show d.H=p.H from a.hH];exact t,?_,?_,?_,?_⟩
  .exact⟨λi d g=>(a.hinv.obj i d g).fT r (λx a=>a),a.hinv.inj,λb o=>ail,λi d g j o k=>a.hinv.sep i d g j o (.inl k),λb o d=>a.hinv.iG b o (.inl d)⟩
  .exact I.mono r
  .exact a.mono.trans r
  .exact⟨a.a_.os,a.a_.output,a.a_.tape,a.a_.size,a.a_.a_,a.a_.loc⟩
 cases e with
 |normal=>exact x q
 |ret=>exact x q
 |_=>exact q.elim
end Go.Mt
namespace Go.Mt
variable{f:Nat}{ds:List D}{args:List Operand}{NI:Array Nat}{σ:Sg}{post:List D->Prop}{Li:Nat->Nat}{a:Act}{o:Oper}{ms:List M}
def St.gE(st:St):List Operand->Option (List M)
 |[]=>some []
 |x::r=>match st.ev x,St.gE st r with
  |some (.m m),some ms=>some (m::ms)
  |_,_=>none
def St.gj(st:St):List Operand->Option (List D)
 |[]=>some []
 |x::r=>match st.ev x,St.gj st r with
  |some (.m (.d d)),some ds=>some (d::ds)
  |_,_=>none
section ops
variable{X:cY}{st:St}{dst:Option Nat}{ty:Nat}{pos:String}{af:Array Edge}{g:Option (Nat×Bool)}
def cj.gE(hi:cj X σ Li st a):∀{xs:List Operand} {ms:List M},st.gE xs=some ms->nC σ ms (xs.map a.eval).toArray
 |[],ms,h=>by simp[St.gE]at h;subst h;exact⟨W,by simp⟩
 |x::r,ms,h=>by
  simp only[St.gE]at h;split at h
  .rename_i m k e f;injection h with h;subst h
   have d:=hi.gE f;have g:=hi.ev e;refine⟨by simpa using d.1,λi j v b c=>?_⟩;cases i with
   |zero=>simp at b c;subst b;subst c;cases g with|m h=>exact h
   |succ i=>simp at b c;exact d.2 i j v b (by simpa using c)
  .cases h
def cj.gj(hi:cj X σ Li st a):∀{xs:List Operand} {ds:List D},st.gj xs=some ds->Em σ.O σ.w ds (xs.map a.eval).toArray
 |[],b,h=>by simp[St.gj]at h;subst h;exact⟨W,by simp⟩
 |x::r,k,h=>by
  simp only[St.gj]at h;split at h
  .rename_i m l e f;injection h with h;subst h
   have d:=hi.gj f;have g:=hi.mz e;refine⟨by simpa using d.1,λi j v b c=>?_⟩;cases i with
   |zero=>simp at b c;subst b;subst c;exact g
   |succ i=>simp at b c;exact d.2 i j v b (by simpa using c)
  .cases h
class bu(P:Program)(f:Nat):Prop where
 run:∀(args:Array Value) (w:World),(callFunc f args).run P w=.ok (.enter f args) w
def AL(st:St)(post:List D->Prop):V->St->Prop:= λv s=>∃r,v=.m (mi (r.map .d))/\post r/\s=st
def cJ.Gp(h:PT X.P f ds post)
  (i:∀c a d,cj X a d st c->∃d,(execOp c.eval o).run X.P a.w=.ok (.enter f d) a.w/\Em a.O a.w ds d):cJ X o st (AL st post):=by
 intro g a d c;obtain⟨j,k,l⟩:=i g a d c;refine dv.enter k ((h a.O a.w j c.hinv.Ej l).mono ?_);rintro e m ⟨v,r,rfl,n,p,q⟩;refine⟨v,W,_,st,{a with w:=m},d,⟨r,rfl,n,rfl⟩,rfl,c.ext p,.m ?_⟩;exact q.C1 λb o v a c=>⟨a,c⟩
def BC[b:bu X.P f](c:st.gj args=some ds)(h:PT X.P f ds post):
  cJ X ⟨dst,.call ⟨.value (.func f),args.toArray,NI⟩,ty,pos,af,g⟩ st (AL st post):=by
 refine cJ.Gp h λa e i d=>⟨(args.map a.eval).toArray,?_,d.gj c⟩
 simp only[execOp,resolve,Act.eval,Deferred.ofValue,invoke];simp[b.run]
def zp{r:D}[p:bu X.P f](d:st.gj args=some ds)(h:PT X.P f ds (·=[r])):
  cJ X ⟨dst,.call ⟨.value (.func f),args.toArray,NI⟩,ty,pos,af,g⟩ st (dm (.m (.d r)) st):=by
 intro a b i j;have:=BC (dst:=dst) (ty:=ty) (pos:=pos) (af:=af) (g:=g) (NI:=NI) d h a b i j;unfold dv at this⊢;generalize (execOp a.eval _).run X.P b.w=z at*;have c:∀v s,AL st (·=[r]) v s->dm (.m (.d r)) st v s:=by
  rintro v s ⟨k,rfl,rfl,rfl⟩;exact⟨W,W⟩
 cases z with
 |ok x q=>
  cases x<;>simp only at this⊢ <;>first
   |(obtain⟨v,s,k,l,m,n⟩:=this;exact⟨v,s,k,l,c _ _ m,n⟩)
   |exact this.mono λe t ⟨u,o,v,s,k,l,m,n⟩=>⟨u,o,v,s,k,l,c _ _ m,n⟩
   |exact this
 |halt x k=>exact this
def Fa{x:Operand}{LX:List D}(l:st.ev x=some (.m (.d (.fn f LX))))[m:bu X.P f](n:st.gj args=some ds)
  (h:PT X.P f (ds++LX) post):cJ X ⟨dst,.call ⟨.value x,args.toArray,NI⟩,ty,pos,af,g⟩ st (AL st post):=by
 refine cJ.Gp h λc w z j=>?_
 have k:=j.mz l;have e:=j.gj n;generalize o:c.eval x=y at k;cases k with
 |fn f A p q r=>
  refine⟨(args.map c.eval).toArray++p,?_,?_⟩
  .simp only[execOp,resolve,o,Deferred.ofValue,invoke];simp[m.run]
  .refine⟨by have:=e.1;simp at this;simp[this,q],λi d v a b=>?_⟩;have s:(args.map c.eval).toArray.size=ds.length:=e.1;rcases agJ i ds.length with t|u
   .rw[agF t]at a;rw[agY (by omega)]at b;exact e.2 i d v a b
   .rw[agP u]at a;rw[aho (by omega),s]at b;exact r _ d v a b
def s8{LX:List Operand}(b:st.gj LX=some ds):
  cJ X ⟨dst,.makeFunc (.func f) #[] LX.toArray,ty,pos,af,g⟩ st (dm (.m (.d (.fn f ds))) st):=by
 refine Lq λa d e c=>?_
 have h:=c.gj b;exact⟨.func (.func f) #[] (LX.map a.eval).toArray,by simp[execOp,Instr.makeFunc],.m (.d (.fn f ds _ h.1 h.2))⟩
def mA{a:Nat->Nat->Prop}(h:ie σ a){b:Nat}(c:a b 0):∀(i:Nat) ob,σ.H[i]?=some ob->ob.live->σ.l i≠b:=by
 intro i ob a d e;exact h.sep i ob a d 0 (by rw[e];exact c)
def cJ.Gs{post:M->Hp->Prop}(h:CT X.P f ms st.H post)
  (n:∀c a d,cj X a d st c->∃d,(execOp c.eval o).run X.P a.w=.ok (.enter f d) a.w/\nC a ms d):
  cJ X o st (λv s=>∃r H',v=.m r/\post r H'/\s=⟨st.sl,st.bx,H'⟩):=by
 intro m k c a;obtain⟨p,q,w⟩:=n m k c a;refine dv.enter q ((h k _ p a.hinv a.hH w).mono ?_);rintro e G ⟨v,r,d,rfl,rfl,x,y,z,g,l⟩;refine⟨v,W,.m r,⟨st.sl,st.bx,d.H⟩,d,c,⟨r,d.H,W,x,W⟩,W,?_,.m z⟩;refine⟨W,a.defers,a.size,λt v c=>let⟨u,A,B⟩:=a.slot t v c;⟨u,A,B.mono g⟩,?_,a.nK,a.oA,a.oB,y,a.mono.trans g,a.a_.trans l⟩;intro t j i;have C:=(a.box t j i).lt trivial;have D:=mA a.hinv (b:=c t) (.inr ⟨t,j,i,rfl⟩);refine(a.box t j i).fT g λF E=>?_
 rw[l.a_ _ C D];exact E
def uy{post:M->Hp->Prop}[b:bu X.P f](c:st.gE args=some ms)(h:CT X.P f ms st.H post):
  cJ X ⟨dst,.call ⟨.value (.func f),args.toArray,NI⟩,ty,pos,af,g⟩ st (λv s=>∃r H',v=.m r/\post r H'/\s=⟨st.sl,st.bx,H'⟩):=by
 refine cJ.Gs h λa e i d=>⟨(args.map a.eval).toArray,?_,d.gE c⟩
 simp only[execOp,resolve,Act.eval,Deferred.ofValue,invoke];simp[b.run]
end ops
end Go.Mt
namespace Go.Mt
variable{b T off t o n:Nat}{w:World}{arr Md:Array Value}{cs Ls:List M}{x:Obj}{v:Value}{P:Program}{σ:Sg}{m:M}
def cW(w:World)(b:Nat)(x:Obj):World:={w with heap:=w.heap.setIfInBounds b x}
def fE(a:b<w.heap.size):(cW w b x).heap[b]?=some x:=by simp[cW,a]
def hM{c:Nat}(h:c≠b):(cW w b x).heap[c]?=w.heap[c]?:=by
 simp[cW,ahb (ahJ h)]
def iJ:(cW w b x).heap.size=w.heap.size:=by simp[cW]
def xa{y:Obj} :cW (cW w b x) b y=cW w b y:=by
 unfold cW
 congr 1
 apply ait;intro i;by_cases h:i=b
 .subst h;simp[Array.getElem?_setIfInBounds]
 .simp[ahb (ahJ h)]
def AM(h:w.heap[b]?=some x):cW w b x=w:=by
 unfold cW;have:w.heap.setIfInBounds b x=w.heap:=by
  apply ait;intro i;by_cases e:i=b
  .subst e;rw[aix];split<;>simp_all
  .simp[ahb (ahJ e)]
 rw[this]
def setCell_eq(h:w.heap[b]?=some (.cells arr T (0,0))):
  w.setCell ⟨b,o,none⟩ v=cW w b (.cells (arr.setIfInBounds o v) T (0,0)):=by
 unfold World.setCell cW
 congr 1
 apply ait;intro i;have a:=fD h;by_cases e:i=b
 .subst e;simp only[aid,ah3,h,aiL,aix,a];simp
 .simp[ahb (ahJ e),aid,ahJ e]
def ey(arr:Array Value)(off:Nat):List Value->Array Value
 |[]=>arr
 |v::r=>ey (arr.setIfInBounds off v) (off+1) r
def fZ:∀(a:List Value) (arr:Array Value) (off:Nat),(ey arr off a).size=arr.size
 |[],arr,off=>rfl
 |v::r,arr,off=>by simp[ey,fZ r]
def lE:∀(a:List Value) (arr:Array Value) (off k:Nat),off+a.length<=arr.size->
  (ey arr off a)[k]?=if off<=k/\k<off+a.length then a[k-off]? else arr[k]?
 |[],arr,off,k,h=>by simp[ey];intro a b;omega
 |v::r,arr,off,k,h=>by
  simp at h;rw[ey,lE r _ (off+1) k (by simp;omega)];by_cases e:k=off
  .subst e;simp;have a:k<arr.size:=by omega
   simp[a];intro b;omega
  .by_cases a:off+1<=k/\k<off+1+r.length
   .have b:off<=k/\k<off+(v::r).length:=by simp;omega
    rw[agK a,agK b];have:k-off=(k-(off+1))+1:=by omega
    rw[this];simp
   .have b:¬(off<=k/\k<off+(v::r).length):=by simp;omega
    rw[agw a,agw b];simp[ahb (ahJ e)]
def C2(h:w.heap[b]?=some (.cells arr T (0,0)))(a:o<arr.size)(c:flat v=true):
  (store ⟨b,o,none⟩ v).run P w=.ok () (cW w b (.cells (arr.setIfInBounds o v) T (0,0))):=by
 have d:w.cell? ⟨b,o,none⟩=some arr[o]:=by simp[World.cell?,h,a]
 have e:w.frozen? ⟨b,o,none⟩=false:=by simp[World.frozen?,h]
 unfold store;cases v<;>simp[flat]at c<;>simp[Sem.run,d,e,setCell_eq h]
def lW{P:Program} :∀(a:List Value) (i:Nat) (w:World) (arr:Array Value),w.heap[b]?=some (.cells arr T (0,0))->off+i+a.length<=arr.size->(∀v∈a,flat v=true)->
  (storeCells ⟨b,off,none⟩ a i).run P w=.ok () (cW w b (.cells (ey arr (off+i) a) T (0,0)))
 |[],i,w,arr,h,_,_=>by simp[storeCells,ey,AM h]
 |v::r,i,w,arr,h,c,a=>by
  simp at c;have c:=C2 (P:=P) (o:=off+i) h (by omega) (a v (by simp));rw[storeCells];simp only[Sem.run_bind,j_];rw[c];simp only[Result.andThen_ok];have c:(cW w b (.cells (arr.setIfInBounds (off+i) v) T (0,0))).heap[b]?=some (.cells (arr.setIfInBounds (off+i) v) T (0,0)):=fE (fD h);rw[lW r (i+1) _ _ c (by simp;omega) (λv c=>a v (by simp[c]))];rw[xa];rfl
def od(h:w.heap[b]?=some (.cells arr T (0,0)))(a:ij P t=some v.cells.size)(c:off+v.cells.size<=arr.size)
  (d:∀(i:Nat) u,v.cells[i]?=some u->flat u=true):
  (storeVar t ⟨b,off,none⟩ v).run P w=.ok () (cW w b (.cells (ey arr off v.cells.toList) T (0,0))):=by
 unfold storeVar;simp only[Sem.run_bind,dr a,Result.andThen_ok];simp;have:=lW (P:=P) (off:=off) v.cells.toList 0 w arr h (by simpa using c) (by
  intro u e;obtain⟨i,f⟩:=aiA.1 e;exact d i u (by simpa using f))
 simpa using this
def jh.write{new:List M}{f:Array Value}(h:jh σ cs arr)(g:jh σ new f)(c:dE cs off new=some Ls):
  jh σ Ls (ey arr off f.toList)/\off+new.length<=cs.length/\Ls.length=cs.length:=by
 unfold dE at c;cases d:Nat.ble (off+new.length) cs.length with
 |false=>simp[d]at c
 |true=>
  simp only[d,ag6,ahl]at c;subst c;have l:=agT d;have n:=h.1;have k:=g.1;refine⟨⟨?_,?_⟩,l,?_⟩
  .rw[fZ,h.1];simp;omega
  .intro i m v a b;rw[lE _ _ _ _ (by simp;omega)]at b;simp only[Array.length_toList,k]at b;by_cases e:off<=i/\i<off+new.length
   .rw[agK e]at b;rw[ahi,agP (by simp;omega),agF (by simp;omega)]at a;have:i-(List.take off cs).length=i-off:=by simp;omega
    rw[this]at a;exact g.2 _ _ _ a (by simpa using b)
   .rw[agw e]at b;refine h.2 i m v ?_ b;rw[ahi]at a;rcases agJ i off with j|j
    .rw[agF (by simp;omega),ais j]at a;exact a
    .rw[agP (by simp;omega),agP (by simp;omega),ahP]at a;have:off+new.length+(i-(List.take off cs).length-new.length)=i:=by simp;omega
     rw[this]at a;exact a
  .simp;omega
def db.cW(h:σ.w.heap[b]?=some (.cells arr T (0,0)))(g:Md.size=arr.size)(j:∀o,¬σ.O b o->Md[o]?=arr[o]?):
  db σ {σ with w:=cW σ.w b (.cells Md T (0,0))} :=by
 have d:=fD h;refine⟨?_,λi a d=>⟨⟨a,d⟩,rfl⟩,λi a d=>⟨⟨a,d⟩,rfl⟩,λi a d=>⟨⟨a,d⟩,rfl⟩,λi a=>a,?_,λ_ h=>⟨_,h⟩⟩
 .intro c o v a f;refine⟨?_,f⟩;by_cases e:c=b
  .subst e;simp only[d_,World.cell?,h]at a;simp only[d_,World.cell?,fE d];simp at a⊢;rw[j o f];exact a
  .rw[lD (hM e)];exact a
 .intro i p q l f k;refine .inr ⟨p,l,f,k,ags _,λ_=>⟨rfl,rfl,λm r a=>?_⟩⟩;by_cases e:σ.l i=b
  .rw[e]at a⊢;rw[h]at a;injection a with a;injection a with n o
   subst n;subst o;exact⟨Md,fE d,g⟩
  .exact⟨m,by rw[hM e];exact a,W⟩
section ops
variable{X:cY}{st:St}{dst:Option Nat}{ty:Nat}{pos:String}{af:Array Edge}{g:Option (Nat×Bool)}
def qW{x:Operand}(d:st.ev x=some (.loc t off))(e:get st.bx t=some cs)(f:ef X.P T cs off=some m):
  cJ X ⟨dst,.load T x,ty,pos,af,g⟩ st (dm (.m m) st):=by
 refine Lq λc n o a=>?_
 have h:=a.ev d;generalize i:c.eval x=u at h;cases h with
 |loc t off=>
  obtain⟨q,p,j,b⟩:=a.box t cs e;obtain⟨v,k,l⟩:=mV f j (by rw[b.1];exact ags _) b.2;exact⟨v,by simp[execOp,i,Instr.loadAt,Instr.sureAddr,k],.m l⟩
def sp{x:Operand}[ht:cT X.P T](a:st.ev x=some (.loc t off))(b:get st.bx t=some cs)(c:cs[off]?=some m):
  cJ X ⟨dst,.load T x,ty,pos,af,g⟩ st (dm (.m m) st):=
 qW a b (by simp[ef,ht.cell,c])
def sq{x:Operand}{ds:List D}[ht:dw X.P T n](a:st.ev x=some (.loc t off))(b:get st.bx t=some cs)(c:Nat.ble (off+n) cs.length=true)
  (d:fY ((cs.drop off).take n)=some ds):cJ X ⟨dst,.load T x,ty,pos,af,g⟩ st (dm (.m (.d (.agg ds))) st):=
 qW a b (by simp[ef,ht.agg,ht.size,c,pack,d])
def bY{α:Type}{l:List (Nat×α)}{k:Nat}{v w:α}(h:get ((k,v)::l) t=some w):(t=k/\w=v)\/(t≠k/\get l t=some w):=by
 rw[b_]at h;by_cases e:k=t
 .rw[agK e]at h;injection h with h;exact .inl ⟨e.symm,h.symm⟩
 .rw[agw e]at h;exact .inr ⟨λh=>e h.symm,h⟩
def cj.Iy{Li:Nat->Nat}{a:Act}(hi:cj X σ Li st a)(d:get st.bx t=some cs)(h:σ.w.heap[Li t]?=some (.cells arr T (0,0)))
  (p:Md.size=arr.size) (q:jh {σ with w:=cW σ.w (Li t) (.cells Md T (0,0))} Ls Md):
  cj X {σ with w:=cW σ.w (Li t) (.cells Md T (0,0))} Li ⟨st.sl,(t,Ls)::st.bx,st.H⟩ a:=by
 have r:∀o,σ.O (Li t) o:= λo=>(hi.hinv.own _ _).2 (.inl (.inr ⟨t,cs,d,rfl⟩))
 have f:db σ {σ with w:=cW σ.w (Li t) (.cells Md T (0,0))} :=db.cW h p (λo c=>(c (r o)).elim);have j:∀b o,lU X.jj Li ((t,Ls)::st.bx) b o↔lU X.jj Li st.bx b o:=by
  intro b o;constructor
  .rintro(i|⟨u,m,i,l⟩)
   .exact .inl i
   .rcases bY i with⟨rfl,rfl⟩|⟨n,c⟩
    .exact .inr ⟨u,cs,d,l⟩
    .exact .inr ⟨u,m,c,l⟩
  .rintro(i|⟨u,m,i,l⟩)
   .exact .inl i
   .by_cases e:t=u
    .subst e;exact .inr ⟨t,Ls,by simp[b_],l⟩
    .exact .inr ⟨u,m,by simp[b_,e,i],l⟩
 have s:=mA hi.hinv (b:=Li t) (.inr ⟨t,cs,d,rfl⟩);have g:∀u c,get ((t,Ls)::st.bx) u=some c->∃c,get st.bx u=some c:=by
  intro u l i;rcases bY i with⟨rfl,rfl⟩|⟨m,c⟩
  .exact⟨cs,d⟩
  .exact⟨l,c⟩
 refine⟨hi.hH,hi.defers,hi.size,λu v d=>let⟨z,c,k⟩:=hi.slot u v d;⟨z,c,k.mono f⟩,?_,?_,?_,?_,?_,hi.mono.trans f,?_⟩
 .intro u i l;rcases bY l with⟨rfl,rfl⟩|⟨m,c⟩
  .exact⟨Md,T,fE (fD h),q⟩
  .refine(hi.box u i c).fT f λx n=>?_
   rw[hM (λe=>m (hi.nK u t i cs c d e))];exact n
 .intro u v l x i m n;obtain⟨_,c⟩:=g u l i;obtain⟨_,k⟩:=g v x m;exact hi.nK u v _ _ c k n
 .intro u l i;obtain⟨_,c⟩:=g u l i;exact hi.oA u _ c
 .intro u l i;obtain⟨_,c⟩:=g u l i;exact hi.oB u _ c
 .refine⟨?_,hi.hinv.inj,λb o=>by rw[j];exact hi.hinv.own b o,λi g c d o f=>hi.hinv.sep i g c d o ((j _ _).1 f),λb o c=>by show b<(cW _ _ _).heap.size;rw[iJ];exact hi.hinv.iG b o ((j _ _).1 c)⟩;intro l i m;by_cases n:i.live
  .refine(hi.hinv.obj l i m).fT f λx u=>?_
   rw[hM (s l i m n)];exact u
  .cases i<;>first|trivial|exact(n trivial).elim
 .refine⟨hi.a_.os,hi.a_.output,hi.a_.tape,by show _<=(cW _ _ _).heap.size;rw[iJ];exact hi.a_.size,?_,hi.a_.loc⟩;intro b i l;rw[hM ?_]
  .exact hi.a_.a_ b i l
  .intro e;have:=hi.oB t cs d;omega
def xb{x y:Operand}(p:st.ev x=some (.loc t off))(q:st.ev y=some (.m m))(f:get st.bx t=some cs)
  [r:cc X.P T n] (s:(cellsOf m).length=n) (u:m.s6=true) (v:dE cs off (cellsOf m)=some Ls):
  cJ X ⟨dst,.store T x y,ty,pos,af,g⟩ st (dm (.m .undef) ⟨st.sl,(t,Ls)::st.bx,st.H⟩):=by
 intro c a d b;have j:=b.ev p;have h:=b.ev q;generalize z:c.eval x=G at j;cases j with
 |loc t off=>
  cases h with
  |m h=>
   obtain⟨o,k,i,l⟩:=b.box t cs f;have e:=h.cells u;have A:∀o,a.O (d t) o:= λo=>(b.hinv.own _ _).2 (.inl (.inr ⟨t,cs,f,rfl⟩))
   obtain⟨B,C,H⟩:=l.write e v;have D:(c.eval y).cells.size=n:=by rw[e.1,s]
   have E:=od (P:=X.P) (t:=T) (off:=off) i (by rw[r.size,D]) (by rw[l.1,e.1];exact C) e.flat;refine dv.skip (by simp only[execOp,z,Instr.storeAt,Instr.sureAddr];simp[E];rfl) ?_;have F:db a {a with w:=cW a.w (d t) (.cells (ey o off (c.eval y).cells.toList) k (0,0))} :=db.cW i (fZ _ _ _) (λo a=>(a (A o)).elim);exact⟨.m .undef,_,{a with w:=cW a.w (d t) (.cells (ey o off (c.eval y).cells.toList) k (0,0))},d,⟨rfl,rfl⟩,rfl,b.Iy f i (fZ _ _ _) (B.mono F),.m (.undef _)⟩
end ops
end Go.Mt
namespace Go.Mt
variable{d T:Nat}{z:D}
def gJ(t:Nat):List (Nat×V)->Bool
 |[]=>true
 |(_,.loc u _)::r=> !Nat.beq u t&&gJ t r
 |_::r=>gJ t r
def xc:∀{l:List (Nat×V)} {t k o:Nat},gJ t l=true->get l k≠some (.loc t o):=by
 intro l
 induction l with
 |nil=>intro t k o _ h;simp[get]at h
 |cons x l e=>
  intro t k o a h;obtain⟨j,u⟩:=x;cases u with
  |m m=>
   rcases bY h with⟨rfl,f⟩|⟨g,f⟩
   .cases f
   .exact e a f
  |tl g b c d=>
   rcases bY h with⟨rfl,f⟩|⟨i,f⟩
   .cases f
   .exact e a f
  |loc u n=>
   simp only[gJ,agZ,ahH]at a;rcases bY h with⟨rfl,f⟩|⟨i,f⟩
   .injection f with g p;subst g;simp at a
   .exact e a.2 f
def cV(t:Nat):List (Nat×V)->List (Nat×V)
 |[]=>[]
 |(k,.loc u o)::r=>bif Nat.beq u t then(k,.m .undef)::cV t r else(k,.loc u o)::cV t r
 |(k,.m m)::r=>(k,.m m)::cV t r
 |(k,.tl a b c d)::r=>(k,.tl a b c d)::cV t r
def yT:∀{l:List (Nat×V)} {t k:Nat} {v:V},get (cV t l) k=some v->(v=.m .undef/\∃u,get l k=some u)\/(get l k=some v/\∀o,v≠.loc t o):=by
 intro l
 induction l with
 |nil=>intro t k v h;simp[cV,get]at h
 |cons x l a=>
  intro t k v h;obtain⟨p,u⟩:=x;cases u with
  |m m=>
   unfold cV at h;rcases bY h with⟨rfl,rfl⟩|⟨g,i⟩
   .exact .inr ⟨by simp[b_],λo f=>by cases f⟩
   .rw[b_,agw (λe=>g e.symm)];exact a i
  |tl j b c d=>
   unfold cV at h;rcases bY h with⟨rfl,rfl⟩|⟨g,i⟩
   .exact .inr ⟨by simp[b_],λo f=>by cases f⟩
   .rw[b_,agw (λe=>g e.symm)];exact a i
  |loc u o=>
   unfold cV at h;cases f:Nat.beq u t with
   |false=>
    rw[f]at h;rcases bY h with⟨rfl,rfl⟩|⟨i,j⟩
    .exact .inr ⟨by simp[b_],λq g=>by injection g with n r;subst n;simp at f⟩
    .rw[b_,agw (λe=>i e.symm)];exact a j
   |true=>
    rw[f]at h;rcases bY h with⟨rfl,rfl⟩|⟨g,i⟩
    .exact .inl ⟨W,.loc u o,by simp[b_]⟩
    .rw[b_,agw (λe=>g e.symm)];exact a i
section ops
variable{X:cY}{st:St}{dst:Option Nat}{ty:Nat}{pos:String}{af:Array Edge}{g:Option (Nat×Bool)}
def cj.Ep{σ:Sg}{Li:Nat->Nat}{a:Act}{d T:Nat}{cs:List M}{arr:Array Value}(hi:cj X σ Li st a)(B:jh σ cs arr):
  ∃e f,e.w={σ.w with heap:=σ.w.heap.push (.cells arr T (0,0))} /\f d=σ.w.heap.size/\cj X e f ⟨cV d st.sl,(d,cs)::st.bx,st.H⟩ a:=by
 let b:=σ.w.heap.size
 let k:World:={σ.w with heap:=σ.w.heap.push (.cells arr T (0,0))}
 let e:Nat->Nat:= λu=>if u=d then b else Li u
 have l:fS σ.w k:=fS.alloc _ _
 let w:Nat->Nat->Prop:= λc o=>lU X.jj e ((d,cs)::st.bx) c o\/∃(i:Nat) (e:Ob),σ.H[i]?=some e/\σ.l i=c/\e.iP o
 let s:Sg:=⟨k,w,σ.l,σ.H⟩
 have t:∀u e,get st.bx u=some e->Li u<b:= λu h i=>(hi.box u h i).lt trivial
 have I:∀c o,c<b->w c o->σ.O c o:=by
  intro c o x i;rw[hi.hinv.own];rcases i with(i|⟨u,h,f,g⟩)|i
  .exact .inl (.inl i)
  .rcases bY f with⟨rfl,rfl⟩|⟨q,r⟩
   .simp[e]at g;omega
   .simp[e,q]at g;exact .inl (.inr ⟨u,h,r,g⟩)
  .exact .inr i
 have n:db σ s:=by
  refine⟨λc o v e f=>⟨l.cell e,λg=>f (I c o (kC e) g)⟩,λi cs e=>⟨⟨cs,e⟩,rfl⟩,λi cs e=>⟨⟨cs,e⟩,rfl⟩,λi cs e=>⟨⟨cs,e⟩,rfl⟩,λi e=>e,
   λi g e f cs e=>.inr ⟨g,f,cs,e,ags _,λ_=>⟨rfl,rfl,λarr T e=>⟨arr,l.heap e,rfl⟩⟩⟩,λ_ h=>⟨_,h⟩⟩
 have C:∀(i:Nat) e,σ.H[i]?=some e->e.live->σ.l i<b:= λj p f g=>(hi.hinv.obj j p f).lt g
 refine⟨s,e,W,by simp[e,b],?_⟩;refine⟨hi.hH,hi.defers,hi.size,?_,?_,?_,?_,?_,?_,hi.mono.trans n,?_⟩
 .intro r v i;rcases yT i with⟨rfl,u,f⟩|⟨f,g⟩
  .obtain⟨z,q,_⟩:=hi.slot r u f;exact⟨z,q,.m (.undef _)⟩
  .obtain⟨z,x,q⟩:=hi.slot r v f;refine⟨z,x,?_⟩;cases q with
   |m q=>exact .m (q.mono n)
   |tl j y A D E F G H=>exact RV.mono (Li:=e) n (.tl j y A D E F G H)
   |loc u o=>
    have y:u≠d:=by rintro rfl;exact g o W
    have:e u=Li u:=by simp[e,y]
    rw[<-this];exact .loc u o
 .intro u h f;rcases bY f with⟨rfl,rfl⟩|⟨q,r⟩
  .refine⟨arr,T,?_,B.mono n⟩;simp[e,s,k,b]
  .have:e u=Li u:=by simp[e,q]
   rw[this];exact(hi.box u h r).fT n λx e=>l.heap e
 .intro u v h x f g q;rcases bY f with⟨rfl,rfl⟩|⟨r,y⟩<;>rcases bY g with⟨rfl,rfl⟩|⟨z,A⟩
  .rfl
  .simp[e,z]at q;have:=t v x A;omega
  .simp[e,r]at q;have:=t u h y;omega
  .simp[e,r,z]at q;exact hi.nK u v h x y A q
 .intro u h f o g;rcases bY f with⟨rfl,rfl⟩|⟨q,r⟩
  .simp[e]at g;have:=hi.hinv.iG _ _ (.inl g);simp[b]at this
  .simp[e,q]at g;exact hi.oA u h r o g
 .intro u h f;rcases bY f with⟨rfl,rfl⟩|⟨q,r⟩
  .simp[e];exact hi.a_.size
  .simp[e,q];exact hi.oB u h r
 .refine⟨λi e f=>(hi.hinv.obj i e f).fT n λx e=>l.heap e,hi.hinv.inj,λc o=>ail,?_,?_⟩
  .intro j p f g o q;have z:=C j p f g;rcases q with q|⟨u,h,q,r⟩
   .exact hi.hinv.sep j p f g o (.inl q)
   .rcases bY q with⟨rfl,rfl⟩|⟨x,y⟩
    .simp[e]at r;change b=σ.l j at r;omega
    .simp[e,x]at r;exact hi.hinv.sep j p f g o (.inr ⟨u,h,y,r⟩)
  .intro c o q;have z:k.heap.size=b+1:=by simp[k,b]
   show c<k.heap.size;rcases q with q|⟨u,h,q,r⟩
   .have:=hi.hinv.iG c o (.inl q);omega
   .rcases bY q with⟨rfl,rfl⟩|⟨x,y⟩
    .simp[e]at r;omega
    .simp[e,x]at r;have:=t u h y;omega
 .refine hi.a_.trans ⟨W,W,W,l.size,λc e _=>l.a_ c e,λi e f g=>.inr ⟨e,f,g,rfl⟩⟩
class wD(P:Program)(t:Nat)(z:outParam D):Prop where
 run:∃v,(∀w,(zeroValue t).run P w=.ok v w)/\oX v=some z
theorem cz{P:Program}{t:Nat}(h:oY P t=some z):wD P t z:=by
 unfold oY at h;split at h
 .rename_i i a;split at h
  .rename_i v b;exact⟨v,λw=>by simp[zeroValue,typeInfo,program,Sem.run,a,b],h⟩
  .cases h
 .cases h
def zt[b:wD X.P T z]:
  cJ X ⟨some d,.alloc T,ty,pos,af,g⟩ st (dm (.loc d 0) ⟨cV d st.sl,(d,(bP z).map .d)::st.bx,st.H⟩):=by
 intro o a p c;obtain⟨v,e,f⟩:=b.run;have h:RM a (.d z) v:=.d (eW f);have i:=h.cells W;obtain⟨j,k,l,m,n⟩:=c.Ep (d:=d) (T:=T) i;refine dv.value (u:=.pointer (some ⟨a.w.heap.size,0,none⟩)) (w':={a.w with heap:=a.w.heap.push (.cells v.cells T (0,0))}) ?_ ⟨.loc d 0,_,j,k,⟨rfl,rfl⟩,l,n,?_⟩
 .simp[execOp,Instr.alloc,e,newVar,newRow,newObj,Sem.run]
 .rw[<-m];exact .loc d 0
def Gu{x:Operand}{m:M}(e:st.ev x=some (.m m))(f:m.s6=true):
  cJ X ⟨some d,.box T x,ty,pos,af,g⟩ st (dm (.loc d 0) ⟨cV d st.sl,(d,cellsOf m)::st.bx,st.H⟩):=by
 intro c a p b;have h:=b.ev e;cases h with
 |m h=>
  have i:=h.cells f;obtain⟨j,k,l,n,o⟩:=b.Ep (d:=d) (T:=T) i;refine dv.value (u:=.pointer (some ⟨a.w.heap.size,0,none⟩)) (w':={a.w with heap:=a.w.heap.push (.cells (c.eval x).cells T (0,0))}) ?_ ⟨.loc d 0,_,j,k,⟨rfl,rfl⟩,l,o,?_⟩
  .simp[execOp,Instr.box,newVar,newRow,newObj,Sem.run]
  .rw[<-n];exact .loc d 0
end ops
end Go.Mt
namespace Go.Mt
variable{T n:Nat}{σ:Sg}{w:World}{parts:List (Nat×Operand)}{ms:List (Nat×M)}{cs:List M}{rows:List (List D)}
def mj:∀(a:List Value) (k off:Nat) (arr:Array Value),
  (a.zipIdx k).foldl (λcs (x:Value×Nat)=>cs.setIfInBounds (off+x.2) x.1) arr=ey arr (off+k) a
 |[],k,off,arr=>rfl
 |v::r,k,off,arr=>by
  rw[List.zipIdx_cons,agy,mj r (k+1) off];rfl
def gK(a:Nat->Option (Nat×Nat))(cs:List M):List (Nat×M)->Option (List M)
 |[]=>some cs
 |(i,m)::r=>match a i with
  |some (b,c)=>bif (Nat.beq (cellsOf m).length c&&m.s6)then(match dE cs b (cellsOf m)with
   |some b=>gK a b r
   |none=>none)else none
  |none=>none
def oC{o:Nat->Option (Nat×Nat)} :∀{parts:List (Nat×M)} {a:List (Nat×Value)} {cs Ls:List M} {arr:Array Value},jh σ cs arr->
  parts.length=a.length->(∀(k:Nat) p q,parts[k]?=some p->a[k]?=some q->p.1=q.1/\RM σ p.2 q.2)->gK o cs parts=some Ls->
  ∃c,Instr.fill o arr a=some c/\jh σ Ls c
 |[],[],cs,Ls,arr,h,_,_,a=>by simp[gK]at a;subst a;exact⟨arr,W,h⟩
 |p::C,q::D,cs,Ls,arr,h,s,f,a=>by
  obtain⟨A,m⟩:=p;obtain⟨B,v⟩:=q;obtain⟨g,i⟩:=f 0 _ _ W W;simp at g i;subst g;unfold gK at a;split at a
  .rename_i e n t;cases c:(Nat.beq (cellsOf m).length n&&m.s6)with
   |false=>simp[c]at a
   |true=>
    simp only[c,ag6]at a;simp only[agZ]at c;have u:=agO c.1;split at a
    .rename_i E w;have d:=i.cells c.2;obtain⟨x,F,G⟩:=h.write d w;obtain⟨r,j,y⟩:=oC x (by simpa using s) (λk p q a b=>f (k+1) p q (by simpa using a) (by simpa using b)) a;refine⟨r,?_,y⟩;unfold Instr.fill;simp only[t];have l:v.cells.size=n:=by rw[d.1,u]
     have z:¬(e+v.cells.size>arr.size):=by rw[d.1,h.1];omega
     rw[agw (by simp[l];rw[l]at z;omega)];have:v.cells.zipIdx.foldl (λcs (x:Value×Nat)=>cs.setIfInBounds (e+x.2) x.1) arr=ey arr e v.cells.toList:=by
      rw[<-Array.foldl_toList,Array.toList_zipIdx,mj];rfl
     rw[<-this]at j;exact j
    .cases a
  .cases a
 |[],_::_,_,_,_,_,a,_,_=>by simp at a
 |_::_,[],_,_,_,_,a,_,_=>by simp at a
def oD(P:Program)(t:Nat):Option (List (Nat×Nat)):=
 match P.underlying t with
 |some (.struct a)=>a.toList.mapM λf=>(ij P f.type).map λn=>(f.offset,n)
 |_=>none
class cK(P:Program)(t:Nat)(places:outParam (List (Nat×Nat)))(z:outParam (List D)):Prop where
 places:oD P t=some places
 zero:oY P t=some (.agg z)
def s9{P:Program} :∀{a:List Field} {ps:List (Nat×Nat)},(a.mapM λf=>(ij P f.type).map λn=>(f.offset,n))=some ps->
  (a.mapM λf=>(do pure (f.offset,<-sizeOf f.type):Sem (Nat×Nat))).run P w=.ok ps w
 |[],ps,h=>by simp at h;subst h;simp
 |f::c,ps,h=>by
  rw[aiT]at h;cases a:ij P f.type with
  |none=>simp[a]at h
  |some n=>
   simp only[a,aiL,Option.bind_eq_bind,ai5]at h;cases b:(c.mapM λf=>(ij P f.type).map λn=>(f.offset,n))with
   |none=>simp[b]at h
   |some d=>
    simp[b]at h;subst h;rw[aiT];simp only[Sem.run_bind,dr a,Result.andThen_ok,Sem.run_pure,s9 b]
def dF(st:St):List (Nat×Operand)->Option (List (Nat×M))
 |[]=>some []
 |(i,x)::r=>match st.ev x,dF st r with
  |some (.m m),some ms=>some ((i,m)::ms)
  |_,_=>none
section ops
variable{X:cY}{st:St}{dst:Option Nat}{ty:Nat}{pos:String}{af:Array Edge}{g:Option (Nat×Bool)}
def cj.dF{Li:Nat->Nat}{a:Act}(hi:cj X σ Li st a):∀{xs:List (Nat×Operand)} {ms:List (Nat×M)},dF st xs=some ms->
  ms.length=(xs.map λp=>(p.1,a.eval p.2)).length/\∀(k:Nat) p q,ms[k]?=some p->(xs.map λp=>(p.1,a.eval p.2))[k]?=some q->p.1=q.1/\RM σ p.2 q.2
 |[],ms,h=>by simp[Mt.dF]at h;subst h;simp
 |(j,x)::r,ms,h=>by
  simp only[Mt.dF]at h;split at h
  .rename_i m l d e;injection h with h;subst h
   obtain⟨f,g⟩:=hi.dF e;have i:=hi.ev d;refine⟨by simpa using f,λk p q b c=>?_⟩;cases k with
   |zero=>simp at b c;subst b;subst c;cases i with|m h=>exact⟨W,h⟩
   |succ k=>simp at b;exact g k p q b (by simpa using c)
  .cases h
def mH{ps:List (Nat×Nat)}{z:List D}[ht:cK X.P T ps z](f:dF st parts=some ms)
  (h:gK (λi=>ps[i]?) (z.map .d) ms=some cs):cJ X ⟨dst,.build T parts.toArray,ty,pos,af,g⟩ st (dm (.m (pack cs)) st):=by
 refine Lq λe c B j=>?_
 obtain⟨k,l⟩:=j.dF f;have n:∃v,(∀w,(zeroValue T).run X.P w=.ok v w)/\oX v=some (.agg z):=(cz ht.zero).run;obtain⟨v,o,p⟩:=n;have q:jh c (z.map .d) v.cells:=(RM.d (eW p):RM c (.d (.agg z)) v).cells W;obtain⟨r,s,a⟩:=oC q k l h;refine⟨.agg r,?_,.m ?_⟩
 .have d:=ht.places;unfold oD at d;split at d
  .rename_i A t;have u:=s9 (w:=c.w) d;have x:(A.mapM λf=>(do pure (f.offset,<-sizeOf f.type):Sem (Nat×Nat))).run X.P c.w=.ok ps.toArray c.w:=by
    rw[aiX];simp only[Functor.map,Sem.run_bind'];rw[u];rfl
   simp only[execOp,Instr.build];simp only[Sem.run_bind,o,Result.andThen_ok,underlying,program,Sem.run,t,Sem.run_pure];simp only[x,Result.andThen_ok];have:(Array.map (λx:Nat×Operand=>match x with|(i,x)=>(i,e.eval x)) parts.toArray).toList=parts.map λp=>(p.1,e.eval p.2):=by simp
   simp only[this];have y:(λi:Nat=>ps.toArray[i]?)= λi:Nat=>ps[i]?:=by funext i;simp
   rw[y,s];simp
  .cases d
 .unfold pack;split
  .rename_i d i;have:=nC.fY ⟨a.1,λi m v c b=>(a.2 i m v c b).1⟩ i;exact .d (.agg d _ this.1 a.flat this.2)
  .exact .agg _ _ a.1 a.flat (λi m v c b=>(a.2 i m v c b).1)
def fM(n len:Nat)(z:List D):List M:=(List.range (len*n)).map λi=>.d (z.getD (i%z.length) default)
def pY:∀{k:Nat} {cs:List M} {rows:List (List D)},chunk n k cs=some rows->cs.length=k*n->
  rows.length=k/\(∀r∈rows,r.length=n)/\∀(i j:Nat) r d,rows[i]?=some r->r[j]?=some d->cs[i*n+j]?=some (.d d)
 |0,[],rows,h,_=>by simp[chunk]at h;subst h;simp
 |0,_::_,rows,h,_=>by simp[chunk]at h
 |k+1,cs,rows,h,c=>by
  unfold chunk at h;split at h
  .rename_i r u l m;injection h with h;subst h
   have o:(cs.drop n).length=k*n:=by simp[c,ahK]
   obtain⟨p,q,s⟩:=pY m o;have f:=sn l;have g:r.length=n:=by
    have:=ahA List.length f;simp at this;rw[c,ahK]at this;omega
   refine⟨by simp[p],?_,?_⟩
   .intro x a;simp at a;rcases a with rfl|a
    .exact g
    .exact q x a
   .intro i j x d a b;cases i with
    |zero=>
     simp at a;subst a;have t:j<n:=by rw[<-g];rcases agJ j r.length with h|h;exact h;simp[agD h]at b
     have:(cs.take n)[j]?=some (.d d):=by rw[f];simp[b]
     rw[ais t]at this;simpa using this
    |succ i=>
     simp at a;have:=s i j x d a b;rw[ahP]at this;have e:(i+1)*n+j=n+(i*n+j):=by rw[ahK];omega
     rw[e];exact this
  .cases h
def gI.Jz{O:Nat->Nat->Prop}{k T:Nat}{arr:Array Value}(t:0<n)(l:∀b o,O b o->b<w.heap.size)(m:rows.length=k)(a:∀r∈rows,r.length=n)
  (o:arr.size=k*n) (p:k<=140737488355328) (h:∀(i j:Nat) r d v,rows[i]?=some r->r[j]?=some d->arr[i*n+j]?=some v->gI O w d v/\flat v=true):
  gI O {w with heap:=w.heap.push (.cells arr T (0,0))} (.sl rows) (.slice (some ⟨w.heap.size,0,none⟩) k k):=by
 subst m;by_cases f:rows=[]
 .subst f;exact .slnil _
 .have c:∀i j,i<rows.length->j<n->i*n+j<arr.size:=by
   intro i j e g;rw[o]
   calc i*n+j<i*n+n:=by omega
    _=(i+1)*n:=by rw[ahK]
    _<=rows.length*n:=agR _ e
  refine .sl rows w.heap.size 0 rows.length n (λi j=>arr.getD (i*n+j) undef) f (ags _) p a ?_ ?_ ?_
  .intro i j e g;refine⟨?_,λa=>by have:=l _ _ a;omega⟩;rw[ahq,wV];simp[c i j e g]
  .intro i j e g;have q:rows[i].length=n:=a _ (agx e);exact(h i j rows[i] (rows[i])[j] _ (by simp[e]) (by simp[q,g]) (by simp[c i j e g])).2
  .intro i j r d e g;have q:i<rows.length:=by rcases agJ i rows.length with h|h;exact h;simp[agD h]at e
   have s:j<n:=by
    rw[<-a r (agN e)];rcases agJ j r.length with h|h;exact h;simp[agD h]at g
   have:=(h i j r d (arr.getD (i*n+j) undef) e g (by simp[c i j q s])).1;exact this.mono λb o v a c=>⟨(fS.alloc w _).cell a,c⟩
def xd{e len:Nat}{z:D}[ht:br X.P T e][l:cc X.P e n][B:fC X.P e z]
  (C:Nat.blt 0 n=true) (o:(bP z).length=n) (U:Nat.ble (len*n) 16777216=true) (E:dF st parts=some ms)
  (q:gK (λi=>some (i*n,n)) (fM n len (bP z)) ms=some cs) (F:chunk n len cs=some rows):
  cJ X ⟨dst,.buildSlice T len parts.toArray,ty,pos,af,g⟩ st (dm (.m (.d (.sl rows))) st):=by
 refine cJ.grow λc a V r=>?_
 have j:=bL C;have Y:=agT U;obtain⟨G,H⟩:=r.dF E;obtain⟨v,I,J⟩:=(cz B.zero).run;have s:jh a ((bP z).map .d) v.cells:=(RM.d (eW J):RM a (.d z) v).cells W;have K:v.cells.size=n:=by rw[s.1];simpa using o
 have L:jh a (fM n len (bP z)) ((Array.range (len*n)).map λi=>v.cells[i%v.cells.size]!):=by
  refine⟨by simp[fM],λi m N p f=>?_⟩;have t:i<len*n:=by
   rcases agJ i (len*n)with h|h
   .exact h
   .rw[agX (by simpa using h)]at f;cases f
  have O:i%n<n:=aik _ j;have y:i%n<(bP z).length:=by omega
  simp[fM,t,o]at p;simp[t,K]at f;have A:i%n<v.cells.size:=by omega
  subst p;subst f;refine s.2 (i%n) _ _ ?_ ?_
  .simp[ag3 y]
  .simp[A]
 obtain⟨u,k,w⟩:=oC L G H q;have x:cs.length=len*n:=by
  have N:∀{c:List (Nat×M)} {a b:List M},gK (λi=>some (i*n,n)) a c=some b->b.length=a.length:=by
   intro p
   induction p with
   |nil=>intro c b h;simp[gK]at h;subst h;rfl
   |cons A p O=>
    intro c b h;obtain⟨y,m⟩:=A;unfold gK at h;simp only at h;cases t:(Nat.beq (cellsOf m).length n&&m.s6)with
    |false=>simp[t]at h
    |true=>
     simp only[t,ag6]at h;split at h
     .rename_i Z f;rw[O h];unfold dE at f;cases i:Nat.ble (y*n+(cellsOf m).length) c.length with
      |false=>simp[i]at f
      |true=>
       simp only[i,ag6,ahl]at f;subst f;have:=agT i;simp;omega
     .cases h
  rw[N q];simp[fM]
 obtain⟨P,Q,R⟩:=pY F x;have S:u.size=len*n:=by rw[w.1,x]
 refine⟨.slice (some ⟨a.w.heap.size,0,none⟩) len len,{a.w with heap:=a.w.heap.push (.cells u e (0,0))},?_,fS.alloc _ _,.m (.d (gI.Jz j r.hinv.Ej P Q S (by have:=aiv len j;omega) ?_))⟩
 .have:(Array.map (λx:Nat×Operand=>match x with|(i,x)=>(i,c.eval x)) parts.toArray).toList=parts.map λp=>(p.1,c.eval p.2):=by simp
  have t:¬(len*n>2^24):=by omega
  by_cases f:len*n=0
  .have y:len=0:=by
    rcases aiM.1 f with h|h
    .exact h
    .omega
   subst y;have h:((Array.range (0*n)).map λi=>v.cells[i%v.cells.size]!)= #[]:=by simp
   rw[h]at k;simp only[execOp,Instr.buildSlice,Sem.run_bind,underlying,program,Sem.run,ht.u,Sem.run_pure,Result.andThen_ok,dr l.size,Sem.run_ite,f,ah3,this];have A:Array.range 0=(#[]:Array Nat):=by decide
   simp only[A,Array.map_empty];rw[k];simp[newRow,newObj,Sem.run]
  .simp only[execOp,Instr.buildSlice,Sem.run_bind,underlying,program,Sem.run,ht.u,Sem.run_pure,Result.andThen_ok,dr l.size,Sem.run_ite,t,ahL,f,I,this];rw[k];simp[newRow,newObj,Sem.run]
 .intro i p t d f A N y;have:=w.2 _ _ f (R i p t d A N) y;refine⟨?_,this.2⟩;cases this.1 with
  |d h=>exact h
end ops
end Go.Mt
namespace Go.Mt
variable{x y:Operand}{n t T f off xt yt e o s j i len:Nat}{cs Ls zs:List M}{ds z:List D}{sl LJ:List (Nat×V)}{v:V}{m:M}{bx L4:List (Nat×List M)}{H:Hp}{args:List Operand}{NI:Array Nat}{ms:List (Nat×M)}{parts:List (Nat×Operand)}{ps:List (Nat×Nat)}{kk:IntKind}{r:D}{rows:List (List D)}{dst:Option Nat}{op:Op}{w b:Bool}{c:Code}{u:ByteArray}{st:St}{X:cY}{post:Exit->St->Prop}
def wr:List M->Nat->List M->Option (List M)
 |cs,0,[]=>some cs
 |_::cs,0,n::a=>match wr cs 0 a with
  |some r=>some (n::r)
  |none=>none
 |c::cs,off+1,a=>match wr cs off a with
  |some r=>some (c::r)
  |none=>none
 |_,_,_=>none
def ss:∀{cs:List M} {off:Nat} {new Ls:List M},wr cs off new=some Ls->dE cs off new=some Ls
 |cs,0,[],Ls,h=>by
  simp[wr]at h;subst h;have:Nat.ble 0 cs.length=true:=agV (ahy _);simp[dE,this]
 |c::cs,0,n::new,Ls,h=>by
  simp only[wr]at h;cases b:wr cs 0 new with
  |none=>simp[b]at h
  |some r=>
   simp[b]at h;subst h;have a:=ss b;unfold dE at a⊢;cases d:Nat.ble (0+new.length) cs.length with
   |false=>rw[d]at a;cases a
   |true=>
    have g:=agT d;have f:Nat.ble (0+(n::new).length) (c::cs).length=true:=agV (by simp;omega);simp only[d,ag6,ahl]at a;simp only[f,ag6,ahl];simp at a⊢;exact a
 |c::cs,off+1,new,Ls,h=>by
  have f:(match wr cs off new with|some r=>some (c::r)|none=>none)=some Ls:=by
   cases new<;>simpa [wr] using h
  cases b:wr cs off new with
  |none=>simp[b]at f
  |some r=>
   simp[b]at f;subst f;have a:=ss b;unfold dE at a⊢;cases d:Nat.ble (off+new.length) cs.length with
   |false=>simp[d]at a
   |true=>
    have i:=agT d;have g:Nat.ble (off+1+new.length) (c::cs).length=true:=agV (by simp;omega);simp only[d,ag6,ahl]at a;simp only[g,ag6,ahl];have e:off+1+new.length=(off+new.length)+1:=by omega
    rw[e,ahg,aiQ,agQ,agQ,a]
 |[],0,_::_,Ls,h=>by simp[wr]at h
 |[],_+1,new,Ls,h=>by cases new<;>simp[wr]at h
def sub{α:Type} :List α->Nat->Nat->Option (List α)
 |_,0,0=>some []
 |c::cs,0,n+1=>match sub cs 0 n with
  |some r=>some (c::r)
  |none=>none
 |_::cs,off+1,n=>sub cs off n
 |[],_,_=>none
theorem sub_eq{α:Type} :∀{cs:List α} {off n:Nat} {ds:List α},sub cs off n=some ds->off+n<=cs.length/\(cs.drop off).take n=ds
 |cs,0,0,ds,h=>by simp[sub]at h;subst h;simp
 |c::cs,0,n+1,ds,h=>by
  simp only[sub]at h;cases a:sub cs 0 n with
  |none=>simp[a]at h
  |some r=>
   simp[a]at h;subst h;obtain⟨d,b⟩:=sub_eq a;refine⟨by simp;omega,?_⟩;simp at b⊢;exact b
 |c::cs,off+1,n,ds,h=>by
  have a:sub cs off n=some ds:=by cases n<;>simpa [sub] using h
  obtain⟨b,d⟩:=sub_eq a;exact⟨by simp;omega,by grind⟩
 |[],0,n+1,ds,h=>by simp[sub]at h
 |[],off+1,n,ds,h=>by cases n<;>simp[sub]at h
def mm:List D->Option (List M)
 |[]=>some []
 |d::r=>match mm r with
  |some ms=>some (.d d::ms)
  |none=>none
def kD:∀{ds:List D} {ms:List M},mm ds=some ms->ms=ds.map .d
 |[],ms,h=>by simp[mm]at h;subst h;rfl
 |d::r,ms,h=>by
  simp only[mm]at h;cases a:mm r with
  |none=>simp[a]at h
  |some x=>simp[a]at h;subst h;simp[kD a]
def fj:M->Option (List M)
 |.d (.agg ds)=>mm ds
 |.agg cs=>some cs
 |.undef=>none
 |.c_ _=>none
 |m=>some [m]
def cU(h:fj m=some cs):cellsOf m=cs/\m.s6=true:=by
 unfold fj at h;split at h
 .rename_i a;rw[kD h];exact⟨W,W⟩
 .injection h with h;subst h;exact⟨W,W⟩
 .cases h
 .cases h
 .rename_i a b c e;injection h with h;subst h
  cases m with
  |d x=>cases x<;>first|exact⟨rfl,rfl⟩|exact absurd W (a _)
  |undef=>exact absurd W c
  |c_ f=>exact absurd W (e _)
  |agg cs=>exact absurd W (b _)
  |_=>exact⟨W,W⟩
def jH(ps:List (Nat×Nat))(cs:List M):List (Nat×M)->Option (List M)
 |[]=>some cs
 |(i,m)::r=>match ps[i]?,fj m with
  |some (off,b),some a=>bif Nat.beq a.length b then(match wr cs off a with
   |some Ls=>jH ps Ls r
   |none=>none)else none
  |_,_=>none
def kZ:∀{parts:List (Nat×M)} {cs Ls:List M},jH ps cs parts=some Ls->gK (λi=>ps[i]?) cs parts=some Ls
 |[],cs,Ls,h=>by simpa [jH,gK] using h
 |(i,m)::r,cs,Ls,h=>by
  simp only[jH]at h;split at h
  .rename_i l j g b c;obtain⟨d,e⟩:=cU c;cases a:Nat.beq g.length j with
   |false=>simp[a]at h
   |true=>
    simp only[a,ag6]at h;split at h
    .rename_i k f;simp only[gK,b,d,e,a,Bool.and_self,ag6,ss f];exact kZ h
    .cases h
  .cases h
def k7:Nat->List (Nat×M)->Option (List (List D))
 |_,[]=>some []
 |k,(i,.d d)::r=>bif Nat.beq i k then(match k7 (k+1) r with
  |some a=>some (bP d::a)
  |none=>none)else none
 |_,_=>none
def ez(sl:List (Nat×V)):List (Nat×Operand)->Option (List (Nat×M))
 |[]=>some []
 |(i,x)::r=>match bj sl x,ez sl r with
  |some (.m m),some ms=>some ((i,m)::ms)
  |_,_=>none
def eA:∀{ps:List (Nat×Operand)},dF ⟨sl,bx,H⟩ ps=ez sl ps
 |[]=>rfl
 |(i,x)::r=>by simp only[dF,ez,eA (ps:=r)];rfl
def xe(g:0<n):∀{ms:List (Nat×M)} {k:Nat} {rows:List (List D)} {pre Qm:List M},k7 k ms=some rows->(∀r∈rows,r.length=n)->pre.length=k*n->Qm.length=ms.length*n->
  gK (λi=>some (i*n,n)) (pre++Qm) ms=some (pre++(rows.map λr=>r.map M.d).flatten)/\rows.length=ms.length
 |[],k,rows,pre,Qm,h,_,_,a=>by
  simp[k7]at h;subst h;simp at a;subst a;simp[gK]
 |(i,m)::r,k,rows,pre,Qm,h,f,b,e=>by
  cases m with
  |d d=>
   simp only[k7]at h;cases c:Nat.beq i k with
   |false=>simp[c]at h
   |true=>
    have:=agO c;subst this;simp only[c,ag6]at h;split at h
    .rename_i v j;injection h with h;subst h
     have l:(bP d).length=n:=f _ (by simp);have w:n<=Qm.length:=by rw[e];simp[ahK]
     have a:(cellsOf (.d d)).length=n:=by simp[cellsOf,l]
     have o:dE (pre++Qm) (i*n) (cellsOf (.d d))=some ((pre++cellsOf (.d d))++Qm.drop n):=by
      unfold dE;rw[agV (by simp[a];omega)];have p:List.take (i*n) (pre++Qm)=pre:=by rw[<-b];simp
      have q:List.drop (i*n+n) (pre++Qm)=List.drop n Qm:=by
       rw[<-b,ai6,ajc (by omega)];simp
      simp only[ag6,a,p,q]
     obtain⟨s,t⟩:=xe g (k:=i+1) (pre:=pre++cellsOf (.d d)) (Qm:=Qm.drop n) j (λr a=>f r (by simp[a])) (by simp[b,a,ahK]) (by simp[e,ahK]);refine⟨?_,by simp[t]⟩;unfold gK;have u:Nat.beq (cellsOf (.d d)).length n=true:=by rw[a];exact ajs n
     simp only[u,M.s6,Bool.and_self,ag6,o];rw[s];simp[cellsOf]
    .cases h
  |_=>simp[k7]at h
theorem pZ{n:Nat} :∀{rows:List (List D)},(∀r∈rows,r.length=n)->chunk n rows.length (rows.map λr=>r.map M.d).flatten=some rows
 |[],_=>rfl
 |r::a,h=>by
  have f:=h r (by simp);have e:∀l:List D,fY (l.map .d)=some l:=by
   intro l;induction l with
   |nil=>rfl
   |cons x l b=>simp[fY,b]
  have b:=pZ (n:=n) (rows:=a) (λr a=>h r (by simp[a]));show chunk n (a.length+1) ((r.map M.d)++(a.map λr=>r.map M.d).flatten)=_;unfold chunk;have c:((r.map M.d)++(a.map λr=>r.map M.d).flatten).take n=r.map M.d:=by
   grind
  have d:((r.map M.d)++(a.map λr=>r.map M.d).flatten).drop n=(a.map λr=>r.map M.d).flatten:=by
   grind
  rw[c,d,e,b]
def ju(n:Nat):List (List D)->Bool
 |[]=>true
 |r::a=>Nat.beq r.length n&&ju n a
def su:∀{rows:List (List D)},ju n rows=true->∀r∈rows,r.length=n
 |[],_,r,a=>by cases a
 |x::b,h,r,a=>by
  simp only[ju,agZ]at h;cases a with
  |head=>exact agO h.1
  |tail _ a=>exact su h.2 r a
def gj(sl:List (Nat×V)):List Operand->Option (List D)
 |[]=>some []
 |x::r=>match bj sl x,gj sl r with
  |some (.m (.d d)),some ds=>some (d::ds)
  |_,_=>none
def gE(sl:List (Nat×V)):List Operand->Option (List M)
 |[]=>some []
 |x::r=>match bj sl x,gE sl r with
  |some (.m m),some ds=>some (m::ds)
  |_,_=>none
def mW:∀{ps:List Operand},(⟨sl,bx,H⟩:St).gj ps=gj sl ps
 |[]=>rfl
 |x::r=>by simp only[St.gj,gj,mW (ps:=r)];rfl
def oE:∀{ps:List Operand},(⟨sl,bx,H⟩:St).gE ps=gE sl ps
 |[]=>rfl
 |x::r=>by simp only[St.gE,gE,oE (ps:=r)];rfl
section rules
variable{X:cY}{ops:Array Oper}{rest:List Oper}{post:St->Prop}{sl:List (Nat×V)}{bx:List (Nat×List M)}{H:Hp}{d ty:Nat}{pos:String}{af:Array Edge}
def LA{o:Oper}{H':Hp}(a:o.guard=none)(b:o.dst=some d)(c:Nat.blt d X.n=true)(h:cJ X o ⟨sl,bx,H⟩ (dm v ⟨LJ,L4,H'⟩))
  (k:TL X ops rest ⟨(d,v)::LJ,L4,H'⟩ post):TL X ops (o::rest) ⟨sl,bx,H⟩ post:=
 TL.kz (by simp[iw,a]) b c h k
def aE(f:iw ops ⟨dst,op,ty,pos,af,some (j,w)⟩ ⟨sl,bx,H⟩=some true)
  (k:TL X ops (⟨dst,op,ty,pos,af,none⟩::rest) ⟨sl,bx,H⟩ post):TL X ops (⟨dst,op,ty,pos,af,some (j,w)⟩::rest) ⟨sl,bx,H⟩ post:=by
 rintro a g ⟨d,h,i,b⟩;have:=k a g ⟨d,h,i,b⟩;unfold wpList at this⊢;rw[agK (b.wanted f)];rw[agK (by simp[Region.wanted])]at this;have e:∀g:Option (Nat×Bool),execOp a.eval ⟨dst,op,ty,pos,af,g⟩=execOp a.eval ⟨dst,op,ty,pos,af,none⟩:=by
  intro m;cases op<;>rfl
 rcases this with this|⟨c,l⟩
 .left;unfold Oper.wp at this⊢;rw[e];exact this
 .right;refine⟨?_,l⟩;unfold Oper.asks at c⊢;rw[e];exact c
def aQ(a:iw ops ⟨some d,op,ty,pos,af,some (j,w)⟩ ⟨sl,bx,H⟩=some false)(b:Nat.blt d X.n=true)
  (k:TL X ops rest ⟨(d,.m (.c_ []))::sl,bx,H⟩ post):TL X ops (⟨some d,op,ty,pos,af,some (j,w)⟩::rest) ⟨sl,bx,H⟩ post:=
 TL.skip a W b k
def ai(a:Nat.blt d X.n=true)(b:bj sl x=some v)(k:TL X ops rest ⟨(d,v)::sl,bx,H⟩ post):TL X ops (⟨some d,.move x,ty,pos,af,none⟩::rest) ⟨sl,bx,H⟩ post:=
 LA W W a (wU b) k
def ah(a:Nat.blt d X.n=true)(b:bj sl x=some v)(k:TL X ops rest ⟨(d,v)::sl,bx,H⟩ post):TL X ops (⟨some d,.assign x,ty,pos,af,none⟩::rest) ⟨sl,bx,H⟩ post:=
 LA W W a (rT b) k
def cH{c:Operand}(a:Nat.blt d X.n=true)(e:bj sl c=some (.m (.d (.bool b))))(f:bj sl (bif b then x else y)=some v)(k:TL X ops rest ⟨(d,v)::sl,bx,H⟩ post):
  TL X ops (⟨some d,.pick c x y,ty,pos,af,none⟩::rest) ⟨sl,bx,H⟩ post:=by
 cases b
 .exact LA W W a (rV e f) k
 .exact LA W W a (rU e f) k
def av{op:BinOp}{m n:Int}(a:Nat.blt d X.n=true)(b:bj sl x=some (.m (.d (.int kk m))))(c:bj sl y=some (.m (.d (.int kk n))))
  (e:lC op kk m n=some r) (k:TL X ops rest ⟨(d,.m (.d r))::sl,bx,H⟩ post):TL X ops (⟨some d,.binOp op xt x y yt,ty,pos,af,none⟩::rest) ⟨sl,bx,H⟩ post:=
 LA W W a (s5 b c e) k
def aI{m n:Int}(a:Nat.blt d X.n=true)(b:bj sl x=some (.m (.d (.int .i64 m))))(c:bj sl y=some (.m (.d (.int .i64 n))))
  (e: -9223372036854775808<=m+n/\m+n<=9223372036854775807) (k:TL X ops rest ⟨(d,.m (.d (.int .i64 (m+n))))::sl,bx,H⟩ post):TL X ops (⟨some d,.binOp .add xt x y yt,ty,pos,af,none⟩::rest) ⟨sl,bx,H⟩ post:=by
 refine av a b c (r:=.int .i64 (m+n)) ?_ k;have:IntKind.i64.wrap (m+n)=m+n:=IntWalk.i64_in _ e;simp[lC,this]
def cD{m n:Int}(a:Nat.blt d X.n=true)(b:bj sl x=some (.m (.d (.int .i64 m))))(c:bj sl y=some (.m (.d (.int .i64 n))))
  (e: -9223372036854775808<=m-n/\m-n<=9223372036854775807) (k:TL X ops rest ⟨(d,.m (.d (.int .i64 (m-n))))::sl,bx,H⟩ post):TL X ops (⟨some d,.binOp .sub xt x y yt,ty,pos,af,none⟩::rest) ⟨sl,bx,H⟩ post:=by
 refine av a b c (r:=.int .i64 (m-n)) ?_ k;have:IntKind.i64.wrap (m-n)=m-n:=IntWalk.i64_in _ e;simp[lC,this]
def C3{m n:Int}(a:Nat.blt d X.n=true)(b:bj sl x=some (.m (.d (.int kk m))))(c:bj sl y=some (.m (.d (.int kk n))))
  (e:(n==0)=false) (k:TL X ops rest ⟨(d,.m (.d (.int kk (m.tmod n))))::sl,bx,H⟩ post):TL X ops (⟨some d,.binOp .rem xt x y yt,ty,pos,af,none⟩::rest) ⟨sl,bx,H⟩ post:=
 LA W W a (El b c e) k
def fb(a:Nat.blt d X.n=true)(c:bj sl x=some (.m (.d (.bool b))))(k:TL X ops rest ⟨(d,.m (.d (.bool (!b))))::sl,bx,H⟩ post):
  TL X ops (⟨some d,.unOp .not xt x,ty,pos,af,none⟩::rest) ⟨sl,bx,H⟩ post:=
 LA W W a (AJ c) k
def s_{s:ByteArray}(a:Nat.blt d X.n=true)(b:bj sl x=some (.m (.d (.str s))))(c:bj sl y=some (.m (.d (.str u))))(k:TL X ops rest ⟨(d,.m (.d (.bool (decide (s=u)))))::sl,bx,H⟩ post):
  TL X ops (⟨some d,.binOp .eql xt x y yt,ty,pos,af,none⟩::rest) ⟨sl,bx,H⟩ post:=
 LA W W a (zo b c) k
def j'{s:ByteArray}(a:Nat.blt d X.n=true)(b:bj sl x=some (.m (.d (.str s))))(c:bj sl y=some (.m (.d (.str u))))(e:s.size+u.size<=9223372036854775807)(k:TL X ops rest ⟨(d,.m (.d (.str (s++u))))::sl,bx,H⟩ post):
  TL X ops (⟨some d,.binOp .add xt x y yt,ty,pos,af,none⟩::rest) ⟨sl,bx,H⟩ post:=
 LA W W a (w_ b c e) k
def bp{v:D}(a:Nat.blt d X.n=true)(b:bj sl x=some (.m (.d v)))(k:TL X ops rest ⟨(d,.m (.d (.ca (bP v) 0)))::sl,bx,H⟩ post):
  TL X ops (⟨some d,.box t x,ty,pos,af,none⟩::rest) ⟨sl,bx,H⟩ post:=
 LA W W a (Eo b) k
def ay{cs:List D}(a:Nat.blt d X.n=true)(b:bj sl x=some (.m (.d (.ca cs off))))[c:aS X.P s f o](k:TL X ops rest ⟨(d,.m (.d (.ca cs (off+o))))::sl,bx,H⟩ post):
  TL X ops (⟨some d,.fieldAddr s x f,ty,pos,af,none⟩::rest) ⟨sl,bx,H⟩ post:=
 LA W W a (rZ b) k
def aA(a:Nat.blt d X.n=true)(b:bj sl x=some (.loc t off))[c:aS X.P s f o](k:TL X ops rest ⟨(d,.loc t (off+o))::sl,bx,H⟩ post):
  TL X ops (⟨some d,.fieldAddr s x f,ty,pos,af,none⟩::rest) ⟨sl,bx,H⟩ post:=
 LA W W a (r_ b) k
def eB(a:Nat.blt d X.n=true)(b:bj sl x=some (.m (.ref i off)))[c:aS X.P s f o](k:TL X ops rest ⟨(d,.m (.ref i (off+o)))::sl,bx,H⟩ post):
  TL X ops (⟨some d,.fieldAddr s x f,ty,pos,af,none⟩::rest) ⟨sl,bx,H⟩ post:=
 LA W W a (sd b) k
def ax{cs:List D}{v:D}[ht:cT X.P t](a:Nat.blt d X.n=true)(b:bj sl x=some (.m (.d (.ca cs off))))(c:cs[off]?=some v)(k:TL X ops rest ⟨(d,.m (.d v))::sl,bx,H⟩ post):
  TL X ops (⟨some d,.load t x,ty,pos,af,none⟩::rest) ⟨sl,bx,H⟩ post:=
 LA W W a (rW b c) k
def aK{cs:List D}[ht:dw X.P t n](a:Nat.blt d X.n=true)(b:bj sl x=some (.m (.d (.ca cs 0))))(c:cs.length=n)(k:TL X ops rest ⟨(d,.m (.d (.agg cs)))::sl,bx,H⟩ post):
  TL X ops (⟨some d,.load t x,ty,pos,af,none⟩::rest) ⟨sl,bx,H⟩ post:=
 LA W W a (rX b c) k
def fA{cs:List D}[ht:dw X.P t n](b:Nat.blt d X.n=true)(c:bj sl x=some (.m (.d (.ca cs off))))(a:sub cs off n=some ds)(k:TL X ops rest ⟨(d,.m (.d (.agg ds)))::sl,bx,H⟩ post):
  TL X ops (⟨some d,.load t x,ty,pos,af,none⟩::rest) ⟨sl,bx,H⟩ post:=
 LA W W b (o4 c (agV (sub_eq a).1) (sub_eq a).2) k
def aF[ht:cT X.P T](a:Nat.blt d X.n=true)(b:bj sl x=some (.loc t off))(c:get bx t=some cs)(e:cs[off]?=some m)(k:TL X ops rest ⟨(d,.m m)::sl,bx,H⟩ post):
  TL X ops (⟨some d,.load T x,ty,pos,af,none⟩::rest) ⟨sl,bx,H⟩ post:=
 LA W W a (sp b c e) k
def aW[ht:dw X.P T n](b:Nat.blt d X.n=true)(c:bj sl x=some (.loc t off))(e:get bx t=some cs)(a:sub cs off n=some Ls)
  (f:fY Ls=some ds) (k:TL X ops rest ⟨(d,.m (.d (.agg ds)))::sl,bx,H⟩ post):TL X ops (⟨some d,.load T x,ty,pos,af,none⟩::rest) ⟨sl,bx,H⟩ post:=
 LA W W b (sq c e (agV (sub_eq a).1) (by rw[(sub_eq a).2];exact f)) k
def dG(a:Nat.blt d X.n=true)(b:bj sl x=some v)(c:si v=true)
  (k:TL X ops rest ⟨(d,v)::sl,bx,H⟩ post):TL X ops (⟨some d,.nilCheck x,ty,pos,af,none⟩::rest) ⟨sl,bx,H⟩ post:=
 LA W W a (o5 b c) k
def aT{v:D}[ht:br X.P t e](a:Nat.blt d X.n=true)(b:bj sl x=some (.m (.d v)))(c:oc v=some n)
  (k:TL X ops rest ⟨(d,.m (.d (.int .i64 n)))::sl,bx,H⟩ post):TL X ops (⟨some d,.call ⟨.builtin .len,#[x],#[t]⟩,ty,pos,af,none⟩::rest) ⟨sl,bx,H⟩ post:=
 LA W W a (wY b c) k
def aN{r:List D}{i:Int}[ht:br X.P t e][f:cc X.P e n](a:Nat.blt d X.n=true)(b:bj sl x=some (.m (.d (.sl rows))))(c:bj sl y=some (.m (.d (.int kk i))))
  (f:0<=i) (g:rows[i.toNat]?=some r) (h:r.length=n) (k:TL X ops rest ⟨(d,.m (.d (.ca r 0)))::sl,bx,H⟩ post):TL X ops (⟨some d,.indexAddr t x y,ty,pos,af,none⟩::rest) ⟨sl,bx,H⟩ post:=
 LA W W a (wZ b c f g h) k
def bZ{a:List M}(b:Nat.blt d X.n=true)(c:bj sl x=some (.m (.c_ a)))(e:a[i]?=some m)(k:TL X ops rest ⟨(d,.m m)::sl,bx,H⟩ post):
  TL X ops (⟨some d,.extract x i,ty,pos,af,none⟩::rest) ⟨sl,bx,H⟩ post:=
 LA W W b (pW c e) k
def aL[c:bu X.P f](h:PT X.P f ds (·=[r]))(a:Nat.blt d X.n=true)(b:gj sl args=some ds)(k:TL X ops rest ⟨(d,.m (.d r))::sl,bx,H⟩ post):
  TL X ops (⟨some d,.call ⟨.value (.func f),args.toArray,NI⟩,ty,pos,af,none⟩::rest) ⟨sl,bx,H⟩ post:=
 LA W W a (zp (by rw[mW];exact b) h) k
def tc{q:List D->Prop}[e:bu X.P f](h:PT X.P f ds q)(a:Nat.blt d X.n=true)(b:gj sl args=some ds)
  (k:∀r,q r->TL X ops rest ⟨(d,.m (mi (r.map .d)))::sl,bx,H⟩ post):
  TL X ops (⟨some d,.call ⟨.value (.func f),args.toArray,NI⟩,ty,pos,af,none⟩::rest) ⟨sl,bx,H⟩ post:=
 TL.op W W a (BC (by rw[mW];exact b) h) (by rintro v s ⟨r,rfl,c,rfl⟩;exact k r c)
def te{LX:List D}[e:bu X.P f](h:PT X.P f (ds++LX) (·=[r]))(a:Nat.blt d X.n=true)(b:bj sl x=some (.m (.d (.fn f LX))))(c:gj sl args=some ds)
  (k:TL X ops rest ⟨(d,.m (.d r))::sl,bx,H⟩ post):TL X ops (⟨some d,.call ⟨.value x,args.toArray,NI⟩,ty,pos,af,none⟩::rest) ⟨sl,bx,H⟩ post:=
 TL.op W W a (Fa b (by rw[mW];exact c) h) (by rintro v s ⟨g,rfl,rfl,rfl⟩;exact k)
theorem iQ{ms:List M}{q:M->Hp->Prop}[c:bu X.P f](h:CT X.P f ms H q)(a:Nat.blt d X.n=true)(b:gE sl args=some ms)
  (k:∀r a,q r a->TL X ops rest ⟨(d,.m r)::sl,bx,a⟩ post):
  TL X ops (⟨some d,.call ⟨.value (.func f),args.toArray,NI⟩,ty,pos,af,none⟩::rest) ⟨sl,bx,H⟩ post:=
 TL.op W W a (uy (by rw[oE];exact b) h) (by grind)
def nO{LX:List Operand}(a:Nat.blt d X.n=true)(b:gj sl LX=some ds)(k:TL X ops rest ⟨(d,.m (.d (.fn f ds)))::sl,bx,H⟩ post):
  TL X ops (⟨some d,.makeFunc (.func f) #[] LX.toArray,ty,pos,af,none⟩::rest) ⟨sl,bx,H⟩ post:=
 LA W W a (s8 (by rw[mW];exact b)) k
def bX[ht:cK X.P T ps z](b:Nat.blt d X.n=true)(c:ez sl parts=some ms)(e:mm z=some zs)
  (f:jH ps zs ms=some cs) (h:fY cs=some ds) (k:TL X ops rest ⟨(d,.m (.d (.agg ds)))::sl,bx,H⟩ post):TL X ops (⟨some d,.build T parts.toArray,ty,pos,af,none⟩::rest) ⟨sl,bx,H⟩ post:=by
 have a:=mH (X:=X) (dst:=some d) (ty:=ty) (pos:=pos) (af:=af) (g:=none) (st:=⟨sl,bx,H⟩) (T:=T) (by rw[eA];exact c) (by rw[<-kD e];exact kZ f);have:pack cs=.d (.agg ds):=by simp[pack,h]
 rw[this]at a;exact LA W W b a k
def zu[ht:cK X.P T ps z](b:Nat.blt d X.n=true)(c:ez sl parts=some ms)(e:mm z=some zs)
  (f:jH ps zs ms=some cs) (h:fY cs=none) (k:TL X ops rest ⟨(d,.m (.agg cs))::sl,bx,H⟩ post):TL X ops (⟨some d,.build T parts.toArray,ty,pos,af,none⟩::rest) ⟨sl,bx,H⟩ post:=by
 have a:=mH (X:=X) (dst:=some d) (ty:=ty) (pos:=pos) (af:=af) (g:=none) (st:=⟨sl,bx,H⟩) (T:=T) (by rw[eA];exact c) (by rw[<-kD e];exact kZ f);have:pack cs=.agg cs:=by simp[pack,h]
 rw[this]at a;exact LA W W b a k
def kE{g:Option (Nat×Bool)}{z:D}[ht:br X.P T e][w:cc X.P e n][x:fC X.P e z](a:Nat.blt 0 n=true)(o:Nat.beq (bP z).length n=true)
  (t:Nat.ble (len*n) 16777216=true) (q:dF st parts=some ms) (b:k7 0 ms=some rows) (u:Nat.beq rows.length len=true) (r:ju n rows=true):
  cJ X ⟨dst,.buildSlice T len parts.toArray,ty,pos,af,g⟩ st (dm (.m (.d (.sl rows))) st):=by
 have c:=agO u;have f:=su r;have s:rows.length=ms.length:=by
  have:∀{ms:List (Nat×M)} {k:Nat} {rows:List (List D)},k7 k ms=some rows->rows.length=ms.length:=by
   intro ms
   induction ms with
   |nil=>intro k rows h;simp[k7]at h;subst h;rfl
   |cons p v y=>
    intro k rows h;obtain⟨l,m⟩:=p;cases m with
    |d d=>
     simp only[k7]at h;cases i:Nat.beq l k with
     |false=>simp[i]at h
     |true=>
      simp only[i,ag6]at h;split at h
      .grind
      .cases h
    |_=>simp[k7]at h
  exact this b
 obtain⟨j,A⟩:=xe (bL a) (k:=0) (pre:=[]) (Qm:=fM n len (bP z)) b f (by simp) (by simp[fM];rw[<-c,s]);simp only[ag2]at j;exact xd a (agO o) t q j (by rw[<-c];exact pZ f)
def aU{z:D}[ht:br X.P T e][f:cc X.P e n][g:fC X.P e z](a:Nat.blt d X.n=true)(b:Nat.blt 0 n=true)(c:Nat.beq (bP z).length n=true)
  (i:Nat.ble (len*n) 16777216=true) (f:ez sl parts=some ms) (g:k7 0 ms=some rows) (j:Nat.beq rows.length len=true) (h:ju n rows=true)
  (k:TL X ops rest ⟨(d,.m (.d (.sl rows)))::sl,bx,H⟩ post):TL X ops (⟨some d,.buildSlice T len parts.toArray,ty,pos,af,none⟩::rest) ⟨sl,bx,H⟩ post:=
 LA W W a (kE b c i (by rw[eA];exact f) g j h) k
class iS(P:Program)(t:Nat)(cs:outParam (List M)):Prop where
 h:∃z,wD P t z/\(bP z).map .d=cs
def aM[c:iS X.P T cs](f:Nat.blt d X.n=true)(i:gJ d sl=true)(k:TL X ops rest ⟨(d,.loc d 0)::sl,(d,cs)::bx,H⟩ post):
  TL X ops (⟨some d,.alloc T,ty,pos,af,none⟩::rest) ⟨sl,bx,H⟩ post:=by
 obtain⟨z,n,j⟩:=c.h;subst j;have b:=zt (X:=X) (st:=⟨sl,bx,H⟩) (d:=d) (T:=T) (ty:=ty) (pos:=pos) (af:=af) (g:=none);have e:cV d sl=sl:=by
  have:∀l:List (Nat×V),gJ d l=true->cV d l=l:=by
   intro l
   induction l with
   |nil=>intro _;rfl
   |cons x l a=>
    obtain⟨k,v⟩:=x;cases v with
    |m m=>intro h;simp only[gJ]at h;simp[cV,a h]
    |tl o p q r=>intro h;simp only[gJ]at h;simp[cV,a h]
    |loc u o=>intro h;simp only[gJ,agZ,ahH]at h;simp[cV,h.1,a h.2]
  exact this sl i
 simp only[e]at b;exact LA W W f b k
def dB(c:Nat.blt d X.n=true)(f:gJ d sl=true)(i:bj sl x=some (.m m))(j:fj m=some cs)(k:TL X ops rest ⟨(d,.loc d 0)::sl,(d,cs)::bx,H⟩ post):
  TL X ops (⟨some d,.box T x,ty,pos,af,none⟩::rest) ⟨sl,bx,H⟩ post:=by
 obtain⟨n,o⟩:=cU j;have b:=Gu (X:=X) (st:=⟨sl,bx,H⟩) (d:=d) (T:=T) (ty:=ty) (pos:=pos) (af:=af) (g:=none) i o;have e:cV d sl=sl:=by
  have:∀l:List (Nat×V),gJ d l=true->cV d l=l:=by
   intro l
   induction l with
   |nil=>intro _;rfl
   |cons x l a=>
    obtain⟨k,v⟩:=x;cases v with
    |m m=>intro h;simp only[gJ]at h;simp[cV,a h]
    |tl p q r s=>intro h;simp only[gJ]at h;simp[cV,a h]
    |loc u p=>intro h;simp only[gJ,agZ,ahH]at h;simp[cV,h.1,a h.2]
  exact this sl f
 simp only[e,n]at b;exact LA W W c b k
def aC{new:List M}[i:cc X.P T n](a:bj sl x=some (.loc t off))(b:bj sl y=some (.m m))(c:get bx t=some cs)(d:fj m=some new)
  (e:Nat.beq new.length n=true) (f:wr cs off new=some Ls) (k:TL X ops rest ⟨sl,(t,Ls)::bx,H⟩ post):TL X ops (⟨none,.store T x y,ty,pos,af,none⟩::rest) ⟨sl,bx,H⟩ post:=by
 obtain⟨g,h⟩:=cU d;subst g;exact TL.Ek W W (xb a b c (agO e) h (ss f)) k
theorem Inv.gN{a:Act}{w:World}(h:Inv X ⟨sl,bx,H⟩ a w)(g:∀t v,get LJ t=some v->get sl t=some v)
  (i:∀t,get L4 t=get bx t):Inv X ⟨LJ,L4,H⟩ a w:=by
 obtain⟨f,d,j,c⟩:=h;refine⟨f,d,j,c.hH,c.defers,c.size,λt v h=>c.slot t v (g t v h),λt d h=>c.box t d (by grind),λt u d f h g=>c.nK t u d f (by grind) (by grind),
  λt d h=>c.oA t d (by grind),λt d h=>c.oB t d (by grind),?_,c.mono,c.a_⟩
 have e:∀b o,lU X.jj d L4 b o↔lU X.jj d bx b o:=by intro b o;simp[lU,i]
 exact⟨c.hinv.obj,c.hinv.inj,λb o=>by rw[e];exact c.hinv.own b o,λi f d g o j=>c.hinv.sep i f d g o ((e _ _).1 j),λb o d=>c.hinv.iG b o ((e _ _).1 d)⟩
def keeps(sl LJ:List (Nat×V)):Prop:=(LJ.map λp=>get sl p.1)=LJ.map λp=>some p.2
def kc{r:List (Nat×V)}(h:get sl t=some v)(k:keeps sl r):keeps sl ((t,v)::r):=by
 show get sl t::_=some v::_;rw[h];exact ahA _ k
def gA:∀{LJ:List (Nat×V)},keeps sl LJ->∀t v,get LJ t=some v->get sl t=some v
 |[],_,t,v,h=>by simp[get]at h
 |(k,u)::r,a,t,v,h=>by
  injection a with b c
  rcases bY h with⟨rfl,rfl⟩|⟨e,d⟩
  .exact b
  .exact gA c t v d
end rules
def TC.gN(h:TC X c ⟨LJ,bx,H⟩ post)(b:keeps sl LJ):TC X c ⟨sl,bx,H⟩ post:=
 λa w d=>h a w (d.gN (gA b) (λ_=>rfl))
def TC.C4(I:Nat->St->Prop)(d:Nat)(b:St)(f:I d b)(g:∀a w,Inv X st a w->Inv X b a w)
  (r:∀k s,I k s->TC X c s (after post λd=>∃a b,a<k/\I a b/\∀a w,Inv X d a w->Inv X b a w)):TC X (.loop c) st post:=by
 intro a w l;refine wp_loop_ghost (λk a w=>∃s,I k s/\Inv X s a w) d ⟨b,f,(g a w l)⟩ ?_;rintro k a w ⟨s,m,n⟩;refine wp_mono (r k s m a w n) ?_;intro e t u ⟨h,h3,h4⟩;cases e with
 |normal=>obtain⟨i,j,o,p,q⟩:=h3;exact⟨i,o,j,p,q _ _ h4⟩
 |_=>exact⟨h,h3,h4⟩
end Go.Mt
namespace Go.Mt
variable{X:cY}{ops:Array Oper}{st:St}{o:Oper}{i:Nat}{α:Type}
structure Ef where
 d:Option Nat
 v:V
 rb:List Nat
 wb:List (Nat×List M)
 nw:Option Nat
 rh:Bool
 wh:Option Hp
variable{post:List Ef->St->Prop}
def Ef.app(e:Ef)(st:St):St:=
 ⟨match e.d with|some d=>(d,e.v)::st.sl|none=>st.sl,e.wb++st.bx,match e.wh with|some h=>h|none=>st.H⟩
def wx(X:cY)(ops:Array Oper)(o:Oper)(st c:St):Prop:=
 ∀a w,Inv X st a w->∀(K:Act->World->Prop) (Q:Exit->Act->World->Prop),(∀a b,Inv X c a b->K a b)->
  if Region.wanted o (yielded ops a.tmps)then o.wp X.P a w K Q else K (a.put o.dst undef) w
structure Ag(ops:Array Oper)(o:Oper)(e:Ef)(st a:St):Prop where
 sl:∀t∈o.looksAt ops,get a.sl t=get st.sl t
 bx:∀t∈e.rb++e.wb.map (·.1),get a.bx t=get st.bx t
 H:(e.rh||e.wh.isSome)=true->a.H=st.H
 nw:∀d,e.nw=some d->∀t o,get a.sl t≠some (.loc d o)
def je(X:cY)(ops:Array Oper)(o:Oper)(e:Ef)(st:St):Prop:=∀a,Ag ops o e st a->wx X ops o a (e.app a)
inductive zw(X:cY)(ops:Array Oper):List Oper->St->List Ef->St->Prop where
 |nil (st:St):zw X ops [] st [] st
 |cons {o:Oper} {os:List Oper} {st a:St} {e:Ef} {es:List Ef} (h:je X ops o e st) (b:e.d=o.dst) (k:zw X ops os (e.app st) es a):zw X ops (o::os) st (e::es) a
def TF(X:cY)(ops:Array Oper)(l:List Oper)(st:St)(post:List Ef->St->Prop):Prop:=∃a b,zw X ops l st a b/\post a b
def TF.nil(h:post [] st):TF X ops [] st post:=⟨[],st,.nil st,h⟩
def TF.cons{rest:List Oper}{e:Ef}(h:je X ops o e st)(a:e.d=o.dst)
  (k:TF X ops rest (e.app st) λa s=>post (e::a) s):TF X ops (o::rest) st post:=by
 obtain⟨b,c,d,f⟩:=k;exact⟨e::b,c,.cons h a d,f⟩
def iU(ops:List Oper):List (List Nat):=
 ops.foldl (λa o=>a++[(o.after.toList.filter (Region.binds .any)).flatMap λe=>e.on::a.getD e.on []]) []
def has(l:List Nat)(i:Nat):Bool:=l.any λx=>Nat.beq x i
def slotsOf(ops:Array Oper)(o:Oper):List Nat:=o.looksAt ops++o.dst.toList
def fN(ops:Array Oper)(x y:Oper)(e f:Ef):Bool:=
 (match x.dst with|some d=>has (slotsOf ops y) d|none=>false)||(match y.dst with|some d=>has (slotsOf ops x) d|none=>false)||
 (e.wb.any λp=>has (f.rb++f.wb.map (·.1)) p.1)||(f.wb.any λp=>has (e.rb++e.wb.map (·.1)) p.1)||
 (e.wh.isSome&&(f.rh||f.wh.isSome))||(f.wh.isSome&&e.rh)||
 (match e.nw,f.v with|some d,.loc u _=>Nat.beq u d|_,_=>false)
def xf(e f:Ef):Bool:=match f.nw,e.v with
 |some d,.loc u _=>Nat.beq u d
 |_,_=>false
def p6:Nat->List Oper->Bool
 |_,[]=>true
 |j,o::r=>(o.after.toList.all λe=> !Region.binds .any e||Nat.blt e.on j)&&p6 (j+1) r
def qX(ops:Array Oper)(x:Oper)(e:Ef)(i:Nat):List Oper->List Ef->List (List Nat)->Bool
 |y::a,f::c,b::d=>(!fN ops x y e f||has b i)&& !xf e f&&qX ops x e i a c d
 |_,_,_=>true
def p7(ops:Array Oper):Nat->List Oper->List Ef->List (List Nat)->Bool
 |i,x::a,e::es,b::c=>qX ops x e i a es c&&p7 ops (i+1) a es c
 |_,_,_,_=>true
def mX(sl:List (Nat×V)):List Ef->Bool
 |[]=>true
 |e::es=>(match e.nw with|some d=>gJ d sl|none=>true)&&mX sl es
def mY(ops:List Oper)(sl:List (Nat×V))(es:List Ef):Bool:=
 p6 0 ops&&p7 ops.toArray 0 ops es (iU ops)&&mX sl es
def iV{l:List Nat} :has l i=true↔i∈l:=by
 unfold has;rw[ahX];constructor
 .rintro⟨x,a,b⟩;rw[<-agO b];exact a
 .intro h;exact⟨i,h,ajs i⟩
def S(st:St)(es:List Ef)(a:Nat->Bool):Nat->St
 |0=>st
 |k+1=>match es[k]? with
  |some e=>bif a k then e.app (S st es a k)else S st es a k
  |none=>S st es a k
structure Part(α:Type)(es:List Ef)where
 r:St->α
 W:Nat->Bool
 c:Nat->α
 fT:∀k e s,es[k]?=some e->W k=false->r (e.app s)=r s
 write:∀k e s,es[k]?=some e->W k=true->r (e.app s)=c k
section parts
variable{α:Type}{es:List Ef}(p:Part α es){st:St}
def uz(L a:Nat->Bool):∀n,(∀k,k<n->p.W k=true->L k=a k)->p.r (S st es L n)=p.r (S st es a n)
 |0,_=>rfl
 |n+1,h=>by
  have d:=uz L a n (λk a=>h k (by omega));simp only[S];cases c:es[n]? with
  |none=>exact d
  |some e=>
   simp only;cases b:p.W n with
   |false=>
    cases f:L n<;>cases g:a n<;>simp only[ag6,aiu]<;>(try rw[p.fT n e _ c b])<;>(try rw[p.fT n e _ c b])<;>exact d
   |true=>
    have:=h n (by omega) b;rw[this];cases f:a n<;>simp only[ag6,aiu]
    .exact d
    .rw[p.write n e _ c b,p.write n e _ c b]
def AN(L:Nat->Bool)(i:Nat):∀n,i<=n->(∀k,i<=k->k<n->p.W k=true->L k=false)->p.r (S st es L n)=p.r (S st es L i)
 |0,a,_=>by
  have:i=0:=by omega
  subst this;rfl
 |n+1,f,h=>by
  by_cases e:i=n+1
  .subst e;rfl
  .have a:=AN L i n (by omega) (λk a b=>h k a (by omega));simp only[S];cases d:es[n]? with
   |none=>exact a
   |some e=>
    simp only;cases b:L n with
    |false=>exact a
    |true=>
     simp only[ag6];cases c:p.W n with
     |false=>rw[p.fT n e _ d c];exact a
     |true=>rw[h n (by omega) (by omega) c]at b;cases b
def oF(L:Nat->Bool)(i m:Nat)(hi:i<=m)(a:∀k,k<i->p.W k=true->L k=true)(b:∀k,i<=k->k<m->p.W k=true->L k=false):
  p.r (S st es L m)=p.r (S st es (λ_=>true) i):=
 (AN p L i m hi b).trans (uz p L _ i λk b c=>a k b c)
def uA(L:Nat->Bool)(i m:Nat)(hi:i<m)(e:Ef)(b:es[i]?=some e)(f:L i=false)(d:p.W i=true->∀k,i<k->k<m->p.W k=true->L k=false):
  p.r (S st es (λk=>if k=i then true else L k) m)=p.r (e.app (S st es L m)):=by
 cases a:p.W i with
 |true=>
  rw[p.write i e _ b a];have:=AN p (st:=st) (λk=>if k=i then true else L k) (i+1) m (by omega) (λk b b c=>by
   have:k≠i:=by omega
   simp[this];exact d a k (by omega) b c)
  rw[this];simp only[S,b,ah3,ag6];exact p.write i e _ b a
 |false=>
  rw[p.fT i e _ b a];exact uz p _ _ m λk g c=>by
   have:k≠i:=by rintro rfl;rw[a]at c;cases c
   simp[this]
end parts
def kf(es:List Ef)(t:Nat):Part (Option V) es where
 r s:=get s.sl t
 W k:=match es[k]? with
  |some e=>match e.d with|some d=>Nat.beq d t|none=>false
  |none=>false
 c k:=match es[k]? with|some e=>some e.v|none=>none
 fT k e s he hw:=by
  simp only[he]at hw;unfold Ef.app;cases hd:e.d with
  |none=>rfl
  |some d=>
   simp only[hd]at hw;have:d≠t:=by rintro rfl;simp at hw
   simp[b_,this]
 write k e s he hw:=by
  simp only[he]at hw⊢;unfold Ef.app;cases hd:e.d with
  |none=>simp[hd]at hw
  |some d=>
   simp only[hd]at hw;have:=agO hw;subst this;simp[b_]
def get_append(l r:List (Nat×α))(t:Nat):get (l++r) t=match get l t with|some v=>some v|none=>get r t:=by
 induction l with
 |nil=>rfl
 |cons x l a=>
  obtain⟨k,v⟩:=x;rw[agQ,b_,b_];by_cases e:k=t
  .simp[e]
  .simp[e,a]
def rG(l:List (Nat×α))(t:Nat):(get l t).isSome=has (l.map (·.1)) t:=by
 induction l with
 |nil=>rfl
 |cons x l a=>
  obtain⟨k,v⟩:=x;rw[b_];by_cases e:k=t
  .subst e;simp[has]
  .have:Nat.beq k t=false:=by rw[<-aiB];intro h;exact e (agO h)
   simp only[e,ahL,a,has,agH,List.any_cons,this,Bool.false_or]
def lM(es:List Ef)(t:Nat):Part (Option (List M)) es where
 r s:=get s.bx t
 W k:=match es[k]? with
  |some e=>has (e.wb.map (·.1)) t
  |none=>false
 c k:=match es[k]? with|some e=>get e.wb t|none=>none
 fT k e s he hw:=by
  simp only[he]at hw;have h:=rG e.wb t;rw[hw]at h;show get (e.wb++s.bx) t=_;rw[get_append];cases hg:get e.wb t with
  |none=>rfl
  |some v=>rw[hg]at h;cases h
 write k e s he hw:=by
  simp only[he]at hw⊢;have h:=rG e.wb t;rw[hw]at h;show get (e.wb++s.bx) t=_;rw[get_append];cases hg:get e.wb t with
  |none=>rw[hg]at h;cases h
  |some v=>rfl
def kg(es:List Ef):Part Hp es where
 r s:=s.H
 W k:=match es[k]? with
  |some e=>e.wh.isSome
  |none=>false
 c k:=match es[k]? with|some e=>(match e.wh with|some h=>h|none=>[])|none=>[]
 fT k e s he hw:=by
  simp only[he]at hw;unfold Ef.app;cases hh:e.wh with
  |none=>rfl
  |some h=>rw[hh]at hw;cases hw
 write k e s he hw:=by
  simp only[he]at hw⊢;unfold Ef.app;cases hh:e.wh with
  |none=>rw[hh]at hw;cases hw
  |some h=>rfl
def mB:∀(ops:List Oper),(iU ops).length=ops.length:=by
 have:∀(ops:List Oper) (a:List (List Nat)),(ops.foldl (λa o=>a++[(o.after.toList.filter (Region.binds .any)).flatMap λe=>e.on::a.getD e.on []]) a).length=a.length+ops.length:=by
  intro ops
  induction ops with
  |nil=>intro a;simp
  |cons o ops a=>intro b;rw[agy,a];simp;omega
 intro ops;unfold iU;rw[this];simp
def zx{ops:List Oper}{j:Nat}{b:List Nat}(l:ops[j]?=some o)(a:(iU ops)[j]?=some b)(hi:i∈b):
  ∃e∈o.after.toList,Region.binds .any e=true/\(e.on=i\/∃b',(iU ops)[e.on]?=some b'/\e.on<j/\i∈b'):=by
 have p:∀(ops:List Oper) (a:List (List Nat)) (j:Nat) (o:Oper) (b:List Nat),ops[j]?=some o->
   (ops.foldl (λa o=>a++[(o.after.toList.filter (Region.binds .any)).flatMap λe=>e.on::a.getD e.on []]) a)[a.length+j]?=some b->
   ∃c:List (List Nat),c.length=a.length+j/\(∀k,k<a.length+j->c[k]?=(ops.foldl (λa o=>a++[(o.after.toList.filter (Region.binds .any)).flatMap λe=>e.on::a.getD e.on []]) a)[k]?)/\
    b=(o.after.toList.filter (Region.binds .any)).flatMap λe=>e.on::c.getD e.on []:=by
  have pre:∀(ops:List Oper) (a:List (List Nat)) (k:Nat),k<a.length->
    (ops.foldl (λa o=>a++[(o.after.toList.filter (Region.binds .any)).flatMap λe=>e.on::a.getD e.on []]) a)[k]?=a[k]?:=by
   intro ops
   induction ops with
   |nil=>intro d k _;rfl
   |cons o ops d=>
    intro q k h;rw[agy,d _ k (by simp;omega),agF h]
  intro ops
  induction ops with
  |nil=>intro d j o b h;simp at h
  |cons x ops k=>
   intro d j o b h a;cases j with
   |zero=>
    simp at h;subst h;rw[agy,pre _ _ _ (by simp)]at a;simp at a;refine⟨d,by simp,?_,a.symm⟩;intro q r;rw[agy,pre _ _ _ (by simp;omega),agF (by omega)]
   |succ j=>
    rw[agy]at a⊢;have e:d.length+(j+1)=(d++[(x.after.toList.filter (Region.binds .any)).flatMap λe=>e.on::d.getD e.on []]).length+j:=by simp;omega
    rw[e]at a⊢;exact k _ j o b (by simpa using h) a
 obtain⟨c,g,m,n⟩:=p ops [] j o b l (by simpa [iU] using a);subst n;rw[List.mem_flatMap]at hi;obtain⟨e,f,hi⟩:=hi;rw[aiN]at f;refine⟨e,f.1,f.2,?_⟩;simp only[agu]at hi;rcases hi with hi|hi
 .exact .inl hi.symm
 .right;have d:e.on<c.length:=by
   rcases agJ e.on c.length with h|h
   .exact h
   .simp[agD h]at hi
  have:c[e.on]?=(iU ops)[e.on]?:=by
   have:=m e.on (by simp at g⊢;omega);simpa [iU] using this
  refine⟨c[e.on],by rw[<-this];simp[d],by simp at g;omega,?_⟩;simpa [List.getD,d] using hi
end Go.Mt
namespace Go.Mt
variable{ops l:List Oper}{I:Hp->Prop}{st LB:St}{X:cY}{es:List Ef}{RF:Array Oper}{id:Nat}{post:Exit->St->Prop}
def p8{x:Oper}{e:Ef}{i:Nat} :∀{g:List Oper} {k:List Ef} {bs:List (List Nat)},qX RF x e i g k bs=true->
  ∀(j:Nat) y f b,g[j]?=some y->k[j]?=some f->bs[j]?=some b->(fN RF x y e f=true->i∈b)/\xf e f=false
 |[],_,_,_,j,y,f,b,a,_,_=>by simp at a
 |_::_,[],_,_,j,y,f,b,_,a,_=>by simp at a
 |_::_,_::_,[],_,j,y,f,b,_,_,a=>by simp at a
 |l::g,m::k,n::bs,h,j,y,f,b,a,c,d=>by
  simp only[qX,agZ,ah5,ahH]at h;cases j with
  |zero=>
   simp at a c d;subst a;subst c;subst d;refine⟨λk=>?_,h.1.2⟩;rcases h.1.1 with g|g
   .rw[g]at k;cases k
   .exact iV.1 g
  |succ j=>simp at a c d;exact p8 h.2 j y f b a c d
def oe:∀{xs:List Oper} {es:List Ef} {bs:List (List Nat)} {n:Nat},p7 RF n xs es bs=true->
  ∀(i j:Nat) x e y f b,i<j->xs[i]?=some x->es[i]?=some e->xs[j]?=some y->es[j]?=some f->bs[j]?=some b->(fN RF x y e f=true->n+i∈b)/\xf e f=false
 |[],_,_,n,_,i,j,x,e,y,f,b,_,a,_,_,_,_=>by simp at a
 |_::_,[],_,n,_,i,j,x,e,y,f,b,_,_,a,_,_,_=>by simp at a
 |_::_,_::_,[],n,_,i,j,x,e,y,f,b,_,_,_,_,_,a=>by simp at a
 |l::xs,m::es,o::bs,n,k,i,j,x,e,y,f,b,p,a,c,g,h,d=>by
  simp only[p7,agZ]at k;cases j with
  |zero=>omega
  |succ j=>
   cases i with
   |zero=>
    simp at a c g h d;subst a;subst c;exact p8 k.1 j y f b g h d
   |succ i=>
    simp at a c g h d;have:=oe k.2 i j x e y f b (by omega) a c g h d;rw[show n+(i+1)=n+1+i by omega];exact this
def og:∀{ops:List Oper} {n:Nat},p6 n ops=true->∀(j:Nat) o,ops[j]?=some o->∀e∈o.after.toList,Region.binds .any e=true->e.on<n+j
 |[],n,_,j,o,a,_,_,_=>by simp at a
 |x::r,n,h,j,o,a,e,d,b=>by
  simp only[p6,agZ,ahD,ah5,ahH]at h;cases j with
  |zero=>
   simp at a;subst a;rcases h.1 e d with c|c
   .rw[c]at b;cases b
   .have:=bL c;omega
  |succ j=>simp at a;have:=og h.2 j o a e d b;omega
def iZ(st:St)(es:List Ef):∀k,S st es (λ_=>true) k=(es.take k).foldl (λs e=>e.app s) st
 |0=>rfl
 |k+1=>by
  simp only[S];cases a:es[k]? with
  |none=>
   have b:es.length<=k:=by rcases agJ k es.length with h|h;simp[ag3 h]at a;exact h
   rw[iZ st es k,ahw b,ahw (by omega)]
  |some e=>
   simp only[ag6];rw[iZ st es k];have b:k<es.length:=by rcases agJ k es.length with h|h;exact h;simp[agD h]at a
   rw[agp b,ag7];have:es[k]=e:=by simpa [ag3 b] using a
   rw[this];rfl
def nD:Nat->(Nat->Bool)->Nat
 |0,_=>0
 |k+1,f=>nD k f+(bif f k then 0 else 1)
def xg:∀{m:Nat} {f g:Nat->Bool},(∀k,k<m->f k=g k)->nD m f=nD m g
 |0,_,_,_=>rfl
 |m+1,f,g,h=>by simp only[nD];rw[xg (λk a=>h k (by omega)),h m (by omega)]
def qY:∀{m:Nat} {f:Nat->Bool},nD m f=0->∀k,k<m->f k=true
 |0,f,_,k,a=>by omega
 |m+1,f,h,k,b=>by
  simp only[nD]at h;cases a:f m with
  |false=>simp[a]at h
  |true=>
   simp[a]at h;by_cases e:k=m
   .rw[e];exact a
   .exact qY h k (by omega)
def tf:∀{m:Nat} {f:Nat->Bool},0<nD m f->∃i,i<m/\f i=false/\∀k,k<i->f k=true
 |0,f,h=>by simp[nD]at h
 |m+1,f,h=>by
  by_cases c:0<nD m f
  .obtain⟨i,d,a,b⟩:=tf c;exact⟨i,by omega,a,b⟩
  .have a:nD m f=0:=by omega
   simp only[nD,a]at h;cases b:f m with
   |false=>exact⟨m,by omega,b,qY a⟩
   |true=>simp[b]at h
def xh:∀{m:Nat} {f:Nat->Bool} {i:Nat},i<m->f i=false->nD m (λk=>if k=i then true else f k)+1=nD m f
 |0,f,i,h,_=>by omega
 |m+1,f,i,h,a=>by
  simp only[nD];by_cases e:i=m
  .subst e;have:nD i (λk=>if k=i then true else f k)=nD i f:=xg λk a=>by simp[show k≠i by omega]
   simp only[this,ah3,a,ag6,aiu,ahW]
  .have:=xh (m:=m) (f:=f) (i:=i) (by omega) a;have b:m≠i:=by omega
   simp only[b,ahL];omega
def AO(X:cY)(I:Hp->Prop)(ops:Array Oper)(o:Oper)(e:Ef)(st:St):Prop:=∀a,Ag ops o e st a->I a.H->wx X ops o a (e.app a)
inductive p9(X:cY)(I:Hp->Prop)(ops:Array Oper):List Oper->St->List Ef->St->Prop where
 |nil (st:St):p9 X I ops [] st [] st
 |cons {o:Oper} {os:List Oper} {st LB:St} {e:Ef} {es:List Ef} (h:AO X I ops o e st) (a:e.d=o.dst) (k:p9 X I ops os (e.app st) es LB):p9 X I ops (o::os) st (e::es) LB
def lX(X:cY)(I:Hp->Prop)(ops:Array Oper)(l:List Oper)(st:St)(post:List Ef->St->Prop):Prop:=∃a b,p9 X I ops l st a b/\post a b
def p9.spec(h:p9 X I RF l st es LB):
  es.length=l.length/\LB=es.foldl (λs e=>e.app s) st/\∀(i:Nat) o e,l[i]?=some o->es[i]?=some e->AO X I RF o e ((es.take i).foldl (λs e=>e.app s) st)/\e.d=o.dst:=by
 induction h with
 |nil st=>exact⟨W,W,by simp⟩
 |cons h c k d=>
  obtain⟨f,g,j⟩:=d;refine⟨by simp[f],g,λi o e a b=>?_⟩;cases i with
  |zero=>simp at a b;subst a;subst b;exact⟨h,c⟩
  |succ i=>simp at a b;exact j i o e a b
def tg(ops:List Oper)(k:Nat):Bool:=match(iU ops)[k]? with
 |some b=>(List.range ops.length).all λi=>Nat.beq i k||has b i
 |none=>false
def vB{k:Nat}(h:tg ops k=true)(i:Nat)(hi:i<ops.length)(c:i≠k):∃b,(iU ops)[k]?=some b/\i∈b:=by
 unfold tg at h;split at h
 .rename_i b d;rw[ahD]at h;have:=h i (ahZ.2 hi);rw[ah5]at this;rcases this with a|a
  .exact absurd (agO a) c
  .exact⟨b,d,iV.1 a⟩
 .cases h
def lF(I:Hp->Prop)(ops:List Oper):Nat->List Ef->Prop
 |_,[]=>True
 |k,e::r=>(match e.wh with|none=>True|some h=>I h\/tg ops k=true)/\lF I ops (k+1) r
def lF.Jl:∀{es:List Ef} {n:Nat},lF I ops n es->∀(k:Nat) f,es[k]?=some f->∀h,f.wh=some h->I h\/tg ops (n+k)=true
 |[],_,_,k,f,a,_,_=>by simp at a
 |e::r,n,⟨b,d⟩,k,f,a,h,c=>by
  cases k with
  |zero=>simp at a;subst a;rw[c]at b;exact b
  |succ k=>
   simp at a;have:=d.Jl k f a h c
   rwa [show n+1+k=n+(k+1) by omega]at this
def lF.mem(h:lF I ops 0 es)(k:Nat)(f:Ef)(a:es[k]?=some f)(H:Hp)(b:f.wh=some H):I H\/tg ops k=true:=by
 have:=h.Jl k f a H b
 rwa [ahq]at this
def xi(I:Hp->Prop)(b:I st.H){L:Nat->Bool}(c:∀(k:Nat) f h,es[k]?=some f->L k=true->f.wh=some h->I h):∀n,I (S st es L n).H
 |0=>b
 |n+1=>by
  simp only[S];have a:=xi I b c n;cases d:es[n]? with
  |none=>exact a
  |some e=>
   simp only;cases f:L n with
   |false=>exact a
   |true=>
    simp only[ag6,Ef.app];cases g:e.wh with
    |none=>exact a
    |some h=>exact c n e h d f g
def TC.Gv(I:Hp->Prop)(S6:I st.H)(hm:X.P.follows .mixedOrders=true)
  (h:lX X I ops.toArray ops st λa c=>mY ops st.sl a=true/\lF I ops 0 a/\post .normal c):TC X (.region id ops.toArray true) st post:=by
 obtain⟨a,J,M',R,Xr,N_⟩:=h;obtain⟨d7,Uj,T⟩:=M'.spec;simp only[mY,agZ]at R;obtain⟨⟨S7,RS⟩,RT⟩:=R;have hE:=og S7;have K:=oe RS;have OE:J=S st a (λ_=>true) ops.length:=by rw[iZ,ahw (by omega),Uj]
 have u:∀(k:Nat) e,a[k]?=some e->∃o b,ops[k]?=some o/\(iU ops)[k]?=some b/\e.d=o.dst/\k<ops.length:=by
  intro k e c;have j:k<a.length:=by rcases agJ k a.length with h|h;exact h;simp[agD h]at c
  have g:ops[k]?=some ops[k]:=by simp[show k<ops.length by omega]
  have i:k<(iU ops).length:=by rw[mB];omega
  exact⟨ops[k],(iU ops)[k],g,by simp[i],(T k _ e g c).2,by omega⟩
 have Rp:∀(k:Nat) e d,a[k]?=some e->e.nw=some d->gJ d st.sl=true:=by
  have:∀(l:List Ef),mX st.sl l=true->∀(k:Nat) e d,l[k]?=some e->e.nw=some d->gJ d st.sl=true:=by
   intro l
   induction l with
   |nil=>intro _ k e d h;simp at h
   |cons n l j=>
    intro g k e d c i;simp only[mX,agZ]at g;cases k with
    |zero=>simp at c;subst c;simpa [i] using g.1
    |succ k=>simp at c;exact j g.2 k e d c i
  exact this a RT
 intro x G q;refine wp_region_any hm ?_;have d5:∀(i:Nat) (c:Array Bool) (g:Act) (w:World),c.size=ops.length->nD ops.length (λk=>c.getD k false)=i->
   (∀j b,c.getD j false=true->(iU ops)[j]?=some b->∀i∈b,c.getD i false=true)->
   Inv X (S st a (λk=>c.getD k false) ops.length) g w->
   wpAny X.P .any ops.toArray (λe c g=>∃a,post e a/\Inv X a c g) i c g w:=by
  intro F
  induction F with
  |zero=>
   intro c x G p l r o;have g:=qY l;refine⟨?_,J,N_,?_⟩
   .unfold Region.ready;rw[List.filter_eq_nil_iff];intro i q;simp at q;have j:=g i q;have k:i<c.size:=by omega
    simp[k]at j;simp[k,j]
   .have e:S st a (λk=>c.getD k false) ops.length=J:=by
     rw[OE];have:∀n,n<=ops.length->S st a (λk=>c.getD k false) n=S st a (λ_=>true) n:=by
      intro n
      induction n with
      |zero=>intro _;rfl
      |succ n i=>
       intro j;simp only[S,i (by omega),g n (by omega)]
     exact this _ (ags _)
    rw[<-e];exact o
  |succ F ih=>
   intro c x G M0 y z d6;have am:∀i,i∈Region.ready .any ops.toArray c↔i<ops.length/\c.getD i true=false/\∃o,ops[i]?=some o/\∀e∈o.after.toList,Region.binds .any e=true->c.getD e.on false=true:=by
    intro i;unfold Region.ready;rw[aiN];simp only[ahZ,aiZ,agZ,ahH,ahO];constructor
    .rintro⟨g,p,l⟩;refine⟨g,p,ops[i],by simp[g],?_⟩;simp[g]at l;intro e o k;have s:e∈ops[i].after:=by simpa using o
     obtain⟨n,r,rfl⟩:=ajm.1 s;rcases l n r with j|j
     .rw[j]at k;cases k
     .simpa using j
    .rintro⟨g,k,o,l,p⟩;refine⟨g,k,?_⟩;have:ops[i]=o:=by simpa [g] using l
     simp[g,this];intro n r;cases j:Region.binds .any o.after[n]with
     |false=>exact .inl rfl
     |true=>right;simpa using p o.after[n] (by simp) j
   refine⟨?_,?_⟩
   .intro o;obtain⟨i,g,j,n⟩:=tf (m:=ops.length) (f:= λk=>c.getD k false) (by omega);have:i∈Region.ready .any ops.toArray c:=by
     rw[am];have p:i<c.size:=by omega
     refine⟨g,by simp[p]at j⊢;exact j,ops[i],by simp[g],?_⟩;intro e k l;have:=hE i ops[i] (by simp[g]) e k l;exact n e.on (by omega)
    rw[o]at this;cases this
   .intro i Qn;obtain⟨r,V,o,l,RU⟩:=(am i).1 Qn;have U:i<c.size:=by omega
    have j:c.getD i false=false:=by simp[U]at V⊢;exact V
    have QE:i<a.length:=by omega
    obtain⟨e,k⟩:∃e,a[i]?=some e:=⟨a[i],by simp[QE]⟩;have NQ:i<(iU ops).length:=by rw[mB];exact r
    obtain⟨N,s⟩:∃b,(iU ops)[i]?=some b:=⟨(iU ops)[i],by simp[NQ]⟩;have ac:∀k,k∈N->c.getD k false=true:=by
     intro t w;obtain⟨L,A,E,g⟩:=zx l s w;have n:=RU L A E;rcases g with g|⟨Q,Y,_,h6⟩
     .rw[<-g];exact n
     .exact z _ Q n Y t h6
    have P:∀(k:Nat) f,k<i->a[k]?=some f->∀x,ops[k]?=some x->fN ops.toArray x o f e=true->c.getD k false=true:=by
     intro g f t w n A y;have:=(K g i n f o e N t A w l k s).1 y;simp at this;exact ac g this
    have p:∀(k:Nat) f,i<k->a[k]?=some f->∀x,ops[k]?=some x->fN ops.toArray o x e f=true->c.getD k false=false:=by
     intro g f A t w L y;obtain⟨_,b,_,n,_,_⟩:=u g f t;have:=(K i g o e w f b A l k L t n).1 y;simp at this;cases E:c.getD g false with
     |false=>rfl
     |true=>rw[z g b E n i this]at j;cases j
    obtain⟨Z,YG⟩:=T i o e l k;have Xs:(a.take i).foldl (λs e=>e.app s) st=S st a (λ_=>true) i:=(iZ st a i).symm;rw[Xs]at Z;have B:∀t k,(kf a t).W k=true->∃f x,a[k]?=some f/\ops[k]?=some x/\f.d=some t/\x.dst=some t:=by
     intro Q w g;simp only[kf]at g;split at g
     .rename_i f t;split at g
      .rename_i d n;have:=agO g;subst this;obtain⟨A,b,E,_,L,_⟩:=u w f t;exact⟨f,A,t,E,n,by rw[<-L];exact n⟩
      .cases g
     .cases g
    have C:∀t k,(lM a t).W k=true->∃f x,a[k]?=some f/\ops[k]?=some x/\t∈f.wb.map (·.1):=by
     intro E t g;simp only[lM]at g;split at g
     .rename_i f n;obtain⟨w,b,A,_,_,_⟩:=u t f n;exact⟨f,w,n,A,iV.1 g⟩
     .cases g
    have D:∀k,(kg a).W k=true->∃f x,a[k]?=some f/\ops[k]?=some x/\f.wh.isSome=true:=by
     intro t g;simp only[kg]at g;split at g
     .rename_i f n;obtain⟨w,b,A,_,_,_⟩:=u t f n;exact⟨f,w,n,A,g⟩
     .cases g
    have O:∀(l:List (Nat×List M)) (r:List Nat) (t:Nat),t∈l.map (·.1)->t∈r->(l.any λp=>has r p.1)=true:=by
     intro A L E n t;rw[ahX];obtain⟨g,w,rfl⟩:=agC.1 n;exact⟨g,w,iV.2 t⟩
    have Uk:Ag ops.toArray o e (S st a (λ_=>true) i) (S st a (λk=>c.getD k false) ops.length):=by
     refine⟨?_,?_,?_,?_⟩
     .intro t n;refine oF (kf a t) _ i ops.length (by omega) ?_ ?_
      .intro g A Q;obtain⟨f,w,E,L,_,Y⟩:=B t g Q;refine P g f A E w L ?_;have:has (slotsOf ops.toArray o) t=true:=iV.2 (by simp[slotsOf,n]);simp[fN,Y,this]
      .intro g hk Mp L;by_cases Y:g=i
       .rw[Y];exact j
       .obtain⟨f,w,A,E,_,Q⟩:=B t g L;refine p g f (by omega) A w E ?_;have:has (slotsOf ops.toArray o) t=true:=iV.2 (by simp[slotsOf,n]);simp[fN,Q,this]
     .intro t n;refine oF (lM a t) _ i ops.length (by omega) ?_ ?_
      .intro g A Q;obtain⟨f,w,E,L,Y⟩:=C t g Q;refine P g f A E w L ?_;have:=O f.wb _ t Y n;simp[fN,this]
      .intro g hk Mp L;by_cases Q:g=i
       .rw[Q];exact j
       .obtain⟨f,w,A,E,Y⟩:=C t g L;refine p g f (by omega) A w E ?_;have:=O f.wb _ t Y n;simp[fN,this]
     .intro g;refine oF (kg a) _ i ops.length (by omega) ?_ ?_
      .intro n w L;obtain⟨f,t,A,E,Q⟩:=D n L;refine P n f w A t E ?_;simp only[ah5]at g;rcases g with g|g<;>simp[fN,Q,g]
      .intro n Y Mp E;by_cases L:n=i
       .rw[L];exact j
       .obtain⟨f,t,w,A,Q⟩:=D n E;refine p n f (by omega) w t A ?_;simp only[ah5]at g;rcases g with g|g<;>simp[fN,Q,g]
     .intro d L ce oo g;have co:∀n,n<=ops.length->get (S st a (λk=>c.getD k false) n).sl ce=some (.loc d oo)->False:=by
       intro n
       induction n with
       |zero=>
        intro _ g;exact xc (Rp i e d k L) g
       |succ n E=>
        intro hn g;simp only[S]at g;cases w:a[n]? with
        |none=>simp only[w]at g;exact E (by omega) g
        |some f=>
         simp only[w]at g;cases t:c.getD n false with
         |false=>rw[t]at g;exact E (by omega) g
         |true=>
          rw[t]at g;simp only[ag6,Ef.app]at g;obtain⟨Q,b,Y,hb,O_,_⟩:=u n f w;cases Ro:f.d with
          |none=>simp only[Ro]at g;exact E (by omega) g
          |some d'=>
           simp only[Ro]at g;rcases bY g with⟨_,A⟩|⟨_,A⟩
           .have LG:n≠i:=by rintro rfl;rw[t]at j;cases j
            rcases Nat.lt_or_gt_of_ne LG with Lx|Ul
            .have:=(K n i Q f o e N Lx Y w l k s).2;simp[xf,L,<-A]at this
            .have:=p n f Ul w Q Y (by simp[fN,L,<-A]);rw[this]at t;cases t
           .exact E (by omega) A
      exact co _ (ags _) g
    have Sj:=Z _ Uk (xi I S6 (λg f h t n E=>(Xr.mem g f t h E).resolve_right λA=>by
     have L:g≠i:=by rintro rfl;rw[j]at n;cases n
     obtain⟨b,w,s⟩:=vB A i r (ahJ L);have:=z g b n w i s;rw[j]at this;cases this) _)
    have S8:∀g j,Inv X (e.app (S st a (λk=>c.getD k false) ops.length)) g j->wpAny X.P .any ops.toArray (λe g j=>∃a,post e a/\Inv X a g j) F (c.setIfInBounds i true) g j:=by
     intro a' w' NK;have w:(λk=>(c.setIfInBounds i true).getD k false)= λg=>if g=i then true else c.getD g false:=by
      funext g
      by_cases n:g=i
      .subst n;simp[U]
      .simp[n,ahb (ahJ n)]
     refine ih _ a' w' (by simp[M0]) ?_ ?_ ?_
     .rw[w];have:=xh (m:=ops.length) (f:= λk=>c.getD k false) r j;omega
     .intro n b hj t g A;have L:(if n=i then true else c.getD n false)=true:=by rw[<-ajt w n];exact hj
      have Q:(if g=i then true else c.getD g false)=true:=by
       by_cases E:g=i
       .simp[E]
       .rw[agw E];by_cases Y:n=i
        .subst Y;rw[s]at t;injection t with t;subst t
         exact ac g A
        .rw[agw Y]at L;exact z n b L t g A
      rw[<-ajt w g]at Q;exact Q
     .rw[w];have g1:∀t,get (S st a (λk=>if k=i then true else c.getD k false) ops.length).sl t=get (e.app (S st a (λk=>c.getD k false) ops.length)).sl t:=by
       intro t;refine uA (kf a t) _ i ops.length r e k j ?_;intro QF n E Mp O1;obtain⟨f,A,L,Q,_,Y⟩:=B t n O1;obtain⟨f',x',OU,g,_,Un⟩:=B t i QF;rw[l]at g;injection g with g;subst g
       refine p n f E L A Q ?_;have:has (slotsOf ops.toArray o) t=true:=iV.2 (by simp[slotsOf,Un]);simp[fN,Y,this]
      have g2:∀t,get (S st a (λk=>if k=i then true else c.getD k false) ops.length).bx t=get (e.app (S st a (λk=>c.getD k false) ops.length)).bx t:=by
       intro t;refine uA (lM a t) _ i ops.length r e k j ?_;intro QF n E Mp O1;obtain⟨f,A,L,Q,Y⟩:=C t n O1;obtain⟨f',x',g,NP,Uo⟩:=C t i QF;rw[k]at g;injection g with g;subst g
       refine p n f E L A Q ?_;have:=O f.wb (e.rb++e.wb.map (·.1)) t Y (agG.2 (.inr Uo));simp[fN,this]
      have g3:(S st a (λk=>if k=i then true else c.getD k false) ops.length).H=(e.app (S st a (λk=>c.getD k false) ops.length)).H:=by
       refine uA (kg a) _ i ops.length r e k j ?_;intro Y n A Mp O1;obtain⟨f,t,E,L,Q⟩:=D n O1;obtain⟨f',x',g,NP,Up⟩:=D i Y;rw[k]at g;injection g with g;subst g
       refine p n f A E t L ?_;simp[fN,Q,Up]
      have:=Inv.gN (X:=X) (sl:=(e.app (S st a (λk=>c.getD k false) ops.length)).sl) (bx:=(e.app (S st a (λk=>c.getD k false) ops.length)).bx) (H:=(e.app (S st a (λk=>c.getD k false) ops.length)).H)
       (LJ:=(S st a (λk=>if k=i then true else c.getD k false) ops.length).sl) (L4:=(S st a (λk=>if k=i then true else c.getD k false) ops.length).bx) NK
       (λt v a=>by rw[<-g1];exact a) g2
      rw[<-g3]at this;exact this
    have:=Sj x G d6 (wpAny X.P .any ops.toArray (λe c g=>∃a,post e a/\Inv X a c g) F (c.setIfInBounds i true)) (λe c g=>∃a,post e a/\Inv X a c g) S8;unfold wpOp;have Uq:ops.toArray[i]?=some o:=by simpa using l
    simp only[Uq];split
    .rename_i g;rw[agK g]at this;exact .inl this
    .rename_i g;rw[agw g]at this;exact this
 refine d5 _ _ x _ (by simp) ?_ ?_ ?_
 .have:∀n,nD n (λk=>(Array.replicate ops.toArray.size false).getD k false)=n:=by
   intro n
   induction n with
   |zero=>rfl
   |succ n c=>
    simp only[nD,c];have:(Array.replicate ops.toArray.size false).getD n false=false:=by simp[ahx];split<;>rfl
    rw[this];rfl
  simpa using this ops.length
 .intro j b c;have:(Array.replicate ops.toArray.size false).getD j false=false:=by simp[ahx];split<;>rfl
  rw[this]at c;cases c
 .have g:∀n,S st a (λk=>(Array.replicate ops.toArray.size false).getD k false) n=st:=by
   intro n
   induction n with
   |zero=>rfl
   |succ n c=>
    have:(Array.replicate ops.toArray.size false).getD n false=false:=by simp[ahx];split<;>rfl
    simp only[S,c,this];cases a[n]?<;>rfl
  rw[g];obtain⟨c,i,rfl,q⟩:=q;exact⟨{c with w:={c.w with drawn:=c.w.drawn+1} },i,rfl,q.ext (fS.drew _)⟩
def zw.fi{ops:Array Oper}(h:zw X ops l st es LB):p9 X I ops l st es LB:=by
 induction h with
 |nil st=>exact .nil st
 |cons h a k b=>exact .cons (λa b _=>h a b) a b
def lF.all:∀{es:List Ef} {n:Nat},(∀e∈es,∀h,e.wh=some h->I h)->lF I ops n es
 |[],_,_=>trivial
 |e::r,n,h=>⟨by split;trivial;rename_i a;exact .inl (h e ahn _ a),lF.all λf a=>h f (aht _ a)⟩
def Na(a:X.P.follows .mixedOrders=true)
  (h:TF X ops.toArray ops st λa b=>mY ops st.sl a=true/\post .normal b):TC X (.region id ops.toArray true) st post:=by
 obtain⟨b,c,d,e,f⟩:=h;exact TC.Gv (λ_=>True) trivial a ⟨b,c,d.fi,e,.all λ_ _ _ _=>trivial,f⟩
end Go.Mt
