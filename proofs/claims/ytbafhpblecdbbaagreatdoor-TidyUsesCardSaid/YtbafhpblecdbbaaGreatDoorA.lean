/- A part of the proof of the last text of this claim, without conditions. -/
import Derived.Tactics
import Derived.Orders
import Derived.Deep.LoopGhost
import Derived.Below
import Derived.WalkKit
set_option maxRecDepth 4000
set_option linter.all false
namespace Go
def W.{u}{α:Sort u}{a:α}:a=a:=rfl
abbrev ah5:=@List.take_succ_eq_append_getElem
abbrev ah6:=@List.length_append
abbrev ah7:=@Int.natCast_nonneg
abbrev ah8:=@List.length_map
abbrev ah9:=@Nat.le_refl
abbrev aia:=@List.length_cons
abbrev aib:=@List.mem_cons
abbrev aic:=@of_decide_eq_true
abbrev aid:=@if_neg
abbrev aie:=@of_decide_eq_false
abbrev aif:=@List.getElem_mem
abbrev aih:=@List.take_length
abbrev aii:=@List.foldl_cons
abbrev aij:=@List.mem_map
abbrev aik:=@List.length_singleton
abbrev ail:=@List.getElem?_eq_none
abbrev aim:=@List.getElem?_append_left
abbrev ain:=@List.mem_append
abbrev aio:=@List.map_append
abbrev aip:=@List.not_mem_nil
abbrev aiq:=@List.map_cons
abbrev air:=@if_pos
abbrev ais:=@Nat.lt_or_ge
abbrev ait:=@List.length_take
abbrev aiu:=@List.append_nil
abbrev aiv:=@List.mem_of_getElem?
abbrev aiw:=@Nat.eq_of_beq_eq_true
abbrev aix:=@List.getElem?_append_right
abbrev aiy:=@Nat.le_of_ble_eq_true
abbrev aiz:=@Nat.le_trans
abbrev aiA:=@List.cons_append
abbrev aiB:=@Nat.mul_le_mul_right
abbrev aiC:=@List.foldl_append
abbrev aiD:=@List.take_zero
abbrev aiE:=@Option.map_eq_some_iff
abbrev aiF:=@Nat.ble_eq_true_of_le
abbrev aiG:=@Array.getElem?_eq_none
abbrev aiH:=@Array.getElem?_append_left
abbrev aiI:=@Bool.and_eq_true
abbrev aiJ:=@or_false
abbrev aiK:=@List.nil_append
abbrev aiL:=@List.map_nil
abbrev aiM:=@List.getElem?_eq_getElem
abbrev aiN:=@List.mem_map_of_mem
abbrev aiO:=@Nat.eq_zero_or_pos
abbrev aiP:=@cond_true
abbrev aiQ:=@List.getElem?_set_ne
abbrev aiR:=@List.mem_singleton
abbrev aiS:=@decide_eq_true
abbrev aiT:=@Array.getElem?_setIfInBounds_ne
abbrev aiU:=@List.take_succ_cons
abbrev aiV:=@List.findIdx?_eq_some_iff_getElem
abbrev aiW:=@List.perm_middle
abbrev aiX:=@List.getElem?_eq_some_iff
abbrev aiY:=@Nat.add_mul
abbrev aiZ:=@List.getElem?_map
abbrev ai0:=@List.append_assoc
abbrev ai1:=@decide_eq_false
abbrev ai2:=@Bool.false_eq_true
abbrev ai3:=@List.take_append_drop
abbrev ai4:=@List.getElem_of_mem
abbrev ai5:=@Option.some.injEq
abbrev ai6:=@List.mem_append_left
abbrev ai7:=@Array.getElem?_append_right
abbrev ai8:=@Nat.zero_add
abbrev ai9:=@Nat.eq_of_mul_eq_mul_right
abbrev aja:=@Nat.zero_le
abbrev ajb:=@List.mem_cons_of_mem
abbrev ajc:=@List.eq_nil_of_length_eq_zero
abbrev ajd:=@List.drop_eq_getElem_cons
abbrev aje:=@List.take_of_length_le
abbrev ajf:=@List.mem_cons_self
abbrev ajg:=@List.getElem_cons_succ
abbrev ajh:=@Array.getElem?_replicate
abbrev aji:=@Nat.lt_succ_iff_lt_or_eq
abbrev ajj:=@congrArg
abbrev ajk:=@List.nodup_cons
abbrev ajl:=@Array.getElem?_extract
abbrev ajm:=@List.all_eq_true
abbrev ajn:=@List.findIdx?_eq_none_iff
abbrev ajo:=@beq_eq_false_iff_ne
abbrev ajp:=@Bool.not_eq_true'
abbrev ajq:=@List.mem_append_right
abbrev ajr:=@List.any_eq_true
abbrev ajs:=@Ne.symm
abbrev ajt:=@Nat.succ_mul
abbrev aju:=@if_false
abbrev ajv:=@List.getElem_cons_zero
abbrev ajw:=@Nat.min_eq_left
abbrev ajx:=@List.getElem?_toArray
abbrev ajy:=@List.getElem?_drop
abbrev ajz:=@List.getElem?_take
abbrev ajA:=@Nat.mul_le_mul
abbrev ajB:=@List.getElem?_of_mem
abbrev ajC:=@List.length_eq_zero_iff
abbrev ajD:=@Array.getElem?_push
abbrev ajE:=@Nat.mul_le_mul_left
abbrev ajF:=@List.getElem?_concat_length
abbrev ajG:=@Nat.add_assoc
abbrev ajH:=@Nat.lt_of_lt_of_le
abbrev ajI:=@List.mem_range
abbrev ajJ:=@List.exists_cons_of_ne_nil
abbrev ajK:=@List.foldl_nil
abbrev ajL:=@if_true
abbrev ajM:=@ByteArray.size_append
abbrev ajN:=@Bool.or_eq_true
abbrev ajO:=@Nat.add_zero
abbrev ajP:=@List.nodup_append
abbrev ajQ:=@List.ext_getElem?
abbrev ajR:=@Nat.le_succ
abbrev ajS:=@List.flatMap_cons
abbrev ajT:=@List.flatMap_append
abbrev ajU:=@Nat.lt_succ_self
abbrev ajV:=@and_true
abbrev ajW:=@Array.getElem?_modify
abbrev ajX:=@List.sizeOf_lt_of_mem
abbrev ajY:=@List.length_filter_le
abbrev ajZ:=@ByteArray.data_append
abbrev aj0:=@List.length_range
abbrev aj1:=@Nat.mod_lt
abbrev aj2:=@Iff.rfl
abbrev aj3:=@List.map_toArray
abbrev aj4:=@List.drop_length
abbrev aj5:=@Nat.add_comm
abbrev aj6:=@List.getElem_map
abbrev aj7:=@List.pairwise_iff_getElem
abbrev aj8:=@Array.toList_append
abbrev aj9:=@List.getElem?_take_of_lt
abbrev aka:=@Array.ext_getElem?
abbrev akb:=@cond_false
abbrev akc:=@Nat.le_mul_of_pos_right
abbrev akd:=@List.flatten_eq_nil_iff
abbrev ake:=@Array.getElem?_setIfInBounds_self
abbrev akf:=@Array.setIfInBounds_append_right
abbrev akg:=@Array.getElem?_append
abbrev akh:=@List.mem_iff_getElem?
abbrev aki:=@List.set_append_right
abbrev akj:=@Bool.not_eq_true
abbrev akk:=@Nat.le_add_right
abbrev akl:=@List.ext_getElem
abbrev akm:=@Array.eq_empty_of_size_eq_zero
abbrev akn:=@Option.getD_some
abbrev ako:=@List.find?_eq_some_iff_getElem
abbrev akp:=@List.length_drop
abbrev akq:=@Nat.mul_assoc
abbrev akr:=@List.take_nil
abbrev aks:=@List.take_append_of_le_length
abbrev akt:=@Option.map_some
abbrev aku:=@Nat.mul_eq_zero
abbrev akv:=@List.mem_filter
abbrev akw:=@List.head?_cons
abbrev akx:=@List.length_set
abbrev aky:=@List.drop_succ_cons
abbrev akz:=@List.reverse_append
abbrev akA:=@List.map_map
abbrev akB:=@List.mapM_cons
abbrev akC:=@List.drop_zero
abbrev akD:=@List.find?_eq_none
abbrev akE:=@List.nodup_iff_pairwise_ne
abbrev akF:=@Array.mapM_eq_mapM_toList
abbrev akG:=@List.mem_take_iff_getElem
abbrev akH:=@List.size_toArray
abbrev akI:=@Array.size_append
abbrev akJ:=@Array.getElem_mem
abbrev akK:=@Int.toNat_natCast
abbrev akL:=@Bool.eq_false_iff
abbrev akM:=@List.any_eq_false
abbrev akN:=@Option.bind_some
abbrev akO:=@List.drop_append
abbrev akP:=@List.mem_flatten
abbrev akQ:=@List.filter_cons_of_pos
abbrev akR:=@List.filter_cons_of_neg
abbrev akS:=@List.filter_cons
abbrev akT:=@Int.eq_ofNat_of_zero_le
abbrev akU:=@List.drop_eq_nil_of_le
abbrev akV:=@List.getElem?_set_self
abbrev akW:=@List.length_pos_of_mem
abbrev akX:=@List.getElem_cons_drop
abbrev akY:=@Nat.sub_self
abbrev akZ:=@List.drop_of_length_le
abbrev ak0:=@List.reverse_singleton
abbrev ak1:=@Nat.mul_zero
abbrev ak2:=@Int.natCast_add
abbrev ak3:=@List.find?_cons
abbrev ak4:=@Option.some.inj
abbrev ak5:=@Array.mem_iff_getElem
abbrev ak6:=@List.getElem?_zipWith
abbrev ak7:=@List.Perm.append_left
abbrev ak8:=@List.singleton_append
abbrev ak9:=@Nat.mul_add
abbrev ala:=@List.map_take
abbrev alb:=@List.sum_cons
abbrev alc:=@Nat.blt_eq
abbrev ald:=@Nat.beq_refl
abbrev alf:=@congrFun
abbrev alg:=@Nat.mul_comm
abbrev alh:=@not_or
end Go
namespace Go.Mt
inductive D where
 |int (k:IntKind) (n:Int)
 |bool (b:Bool)
 |str (s:ByteArray)
 |sl (rows:List (List D))
 |oD
 |agg (cs:List D)
 |bM (cs:List D) (off:Nat)
 |fn (f:Nat) (cap:List D)
 |oe|xH|mH|jA
 |Gg (t:Nat) (d:D)
 deriving Inhabited
inductive M where
 |d (x:D)
 |ref (i off:Nat)
 |bZ (i MF len:Nat)
 |cz (i MF off:Nat)
 |mp (i:Nat)
 |it (i:Nat)
 |agg (cs:List M)
 |fn (f:Nat) (cap:List M)
 |c_ (vs:List M)
 |undef
 deriving Inhabited
inductive V where
 |m (x:M)
 |loc (t off:Nat)
 |tl (j MF off len:Nat)
 deriving Inhabited
inductive Ob where
 |box (cs:List M)
 |row (acc:Bool) (ec MF:Nat) (cs:List M)
 |map (es:List (D×M))
 |iter (x:M)
 |dead
 |free
 deriving Inhabited
abbrev Hp:=List Ob
def get{α:Type} :List (Nat×α)->Nat->Option α
 |[],_=>none
 |(k,v)::r,t=>bif Nat.beq k t then some v else get r t
structure St where
 sl:List (Nat×V)
 bx:List (Nat×List M)
 H:Hp
def sH(P:Program)(t:Nat):Option Bool:=
 match P.underlying t with
 |some (.struct _)=>some true
 |some (.array _ _)=>some true
 |some _=>some false
 |none=>none
def iJ(P:Program)(t:Nat):Option Nat:=(P.info? t).map (·.size)
def xI(P:Program)(t:Nat):Option Nat:=(P.info? t).map (·.bytes)
def oQ:Value->Option D
 |.int k n=>some (.int k n)
 |.bool b=>some (.bool b)
 |.string s=>some (.str s)
 |.slice none 0 0=>some (.sl [])
 |.pointer none=>some .oe
 |.nilFunc=>some .xH
 |.nilIface=>some .mH
 |.map none=>some .jA
 |_=>none
def kw:List Value->Option (List D)
 |[]=>some []
 |v::r=>match oQ v,kw r with
  |some d,some a=>some (d::a)
  |_,_=>none
def pt:Value->Option D
 |.agg a=>match kw a.toList with
  |some a=>some (.agg a)
  |none=>none
 |v=>oQ v
def pu(P:Program)(t:Nat):Option D:=
 match P.info? t with
 |some i=>match i.zero with
  |some v=>pt v
  |none=>none
 |none=>none
def aS(sl:List (Nat×V)):Operand->Option V
 |.tmp t=>get sl t
 |.const v=>match pt v with
  |some d=>some (.m (.d d))
  |none=>none
 |.func f=>some (.m (.d (.fn f [])))
 |.global _=>none
def St.ev(s:St)(x:Operand):Option V:=aS s.sl x
def bz:D->List D
 |.agg a=>a
 |d=>[d]
def cellsOf:M->List M
 |.d x=>(bz x).map .d
 |.agg a=>a
 |m=>[m]
def gg:List M->Option (List D)
 |[]=>some []
 |.d x::r=>(gg r).map (x:: ·)
 |_=>none
def pack(cs:List M):M:=
 match gg cs with
 |some a=>.d (.agg a)
 |none=>.agg cs
def dX(P:Program)(t:Nat)(cs:List M)(off:Nat):Option M:=
 match sH P t,iJ P t with
 |some true,some n=>bif Nat.ble (off+n) cs.length then some (pack ((cs.drop off).take n))else none
 |some false,_=>cs[off]?
 |_,_=>none
def qo(P:Program)(t:Nat)(cs:List D)(off:Nat):Option D:=
 match sH P t,iJ P t with
 |some true,some n=>bif Nat.ble (off+n) cs.length then some (.agg ((cs.drop off).take n))else none
 |some false,_=>cs[off]?
 |_,_=>none
def dH(cs:List M)(off:Nat)(new:List M):Option (List M):=
 bif Nat.ble (off+new.length) cs.length then some (cs.take off++new++cs.drop (off+new.length))else none
def chunk(ec:Nat):Nat->List M->Option (List (List D))
 |0,[]=>some []
 |0,_=>none
 |n+1,a=>match gg (a.take ec),chunk ec n (a.drop ec)with
  |some r,some a=>some (r::a)
  |_,_=>none
def flat:Value->Bool
 |.agg _=>false
 |.tuple _=>false
 |_=>true
variable{v:Value}
abbrev ea(w:World)(b o:Nat):Option Value:=w.cell? ⟨b,o,none⟩
inductive gO(O:Nat->Nat->Prop)(w:World):D->Value->Prop where
 |int (k:IntKind) (n:Int):gO O w (.int k n) (.int k n)
 |bool (b:Bool):gO O w (.bool b) (.bool b)
 |str (s:ByteArray):gO O w (.str s) (.string s)
 |slnil (a:Option Addr):gO O w (.sl []) (.slice a 0 0)
 |sl (rows:List (List D)) (b o cap ec:Nat) (c:Nat->Nat->Value) (e:rows≠[]) (g:rows.length<=cap) (l:rows.length<=140737488355328)
   (OI:∀r∈rows,r.length=ec)
   (Nc:∀i j,i<rows.length->j<ec->ea w b (o+(i*ec+j))=some (c i j)/\¬O b (o+(i*ec+j)))
   (NA:∀i j,i<rows.length->j<ec->flat (c i j)=true)
   (N':∀i j r d,rows[i]?=some r->r[j]?=some d->gO O w d (c i j)):
   gO O w (.sl rows) (.slice (some ⟨b,o,none⟩) rows.length cap)
 |oD (a:Option Addr) (cap:Nat):gO O w .oD (.slice a 0 cap)
 |agg (cs:List D) (c:Array Value) (e:c.size=cs.length) (g:∀(i:Nat) (v:Value),c[i]?=some v->flat v=true) (h:∀(i:Nat) (d:D) (v:Value),cs[i]?=some d->c[i]?=some v->gO O w d v):gO O w (.agg cs) (.agg c)
 |bM (cs:List D) (off b o:Nat) (c:Nat->Value)
   (Nc:∀i,i<cs.length->ea w b (o+i)=some (c i)/\¬O b (o+i))
   (NA:∀i,i<cs.length->flat (c i)=true)
   (N':∀i d,cs[i]?=some d->gO O w d (c i)):gO O w (.bM cs off) (.pointer (some ⟨b,o+off,none⟩))
 |fn (f:Nat) (cs:List D) (c:Array Value) (e:c.size=cs.length) (h:∀(i:Nat) (d:D) (v:Value),cs[i]?=some d->c[i]?=some v->gO O w d v):gO O w (.fn f cs) (.func (.func f) #[] c)
 |oe:gO O w .oe (.pointer none)
 |xH:gO O w .xH .nilFunc
 |mH:gO O w .mH .nilIface
 |jA:gO O w .jA (.map none)
 |Gg (t:Nat) (d:D) (v:Value) (h:gO O w d v):gO O w (.Gg t d) (.iface t v)
def gO.mono{O a:Nat->Nat->Prop}{w w':World}(c:∀b o v,ea w b o=some v->¬O b o->ea w' b o=some v/\¬a b o)
  {d:D} (h:gO O w d v):gO a w' d v:=by
 induction h with
 |int k n=>exact .int k n
 |bool b=>exact .bool b
 |str s=>exact .str s
 |slnil e=>exact .slnil e
 |sl q b o n f p g i j k e l r m=>
  exact .sl q b o n f p g i j k (λi j a f=>c _ _ _ (e i j a f).1 (e i j a f).2) l m
 |oD e f=>exact .oD e f
 |agg f g i j h e=>exact .agg f g i j e
 |bM i k b o j e f l g=>exact .bM i k b o j (λi a=>c _ _ _ (e i a).1 (e i a).2) f g
 |fn f g i j h e=>exact .fn f g i j e
 |oe=>exact .oe
 |xH=>exact .xH
 |mH=>exact .mH
 |jA=>exact .jA
 |Gg t d v h e=>exact .Gg t d v e
structure Sg where
 w:World
 O:Nat->Nat->Prop
 l:Nat->Nat
 H:Hp
variable{σ τ:Sg}
inductive RM(σ:Sg):M->Value->Prop where
 |d {x:D} {v:Value} (h:gO σ.O σ.w x v):RM σ (.d x) v
 |ref (i off:Nat) (cs:List M) (h:σ.H[i]?=some (.box cs)):RM σ (.ref i off) (.pointer (some ⟨σ.l i,off,none⟩))
 |bZ (i MF len:Nat) (a:Option Addr) (cap:Nat)
   (hle:σ.H[i]?=some .dead\/∃acc ec c cs,σ.H[i]?=some (.row acc ec c cs)/\MF<=c)
   (ND:∀acc ec cs,σ.H[i]?=some (.row acc ec MF cs)->a=some ⟨σ.l i,0,none⟩/\cs.length=len*ec/\∃arr T,σ.w.heap[σ.l i]?=some (.cells arr T (0,0))/\arr.size=cap*ec):
   RM σ (.bZ i MF len) (.slice a len cap)
 |cz (i MF off b:Nat)
   (hle:σ.H[i]?=some .dead\/∃acc ec c cs,σ.H[i]?=some (.row acc ec c cs)/\MF<=c)
   (ND:∀acc ec cs,σ.H[i]?=some (.row acc ec MF cs)->b=σ.l i):RM σ (.cz i MF off) (.pointer (some ⟨b,off,none⟩))
 |mp (i:Nat) (es:List (D×M)) (h:σ.H[i]?=some (.map es)):RM σ (.mp i) (.map (some (σ.l i)))
 |it (i:Nat) (x:M) (h:σ.H[i]?=some (.iter x)):RM σ (.it i) (.pointer (some ⟨σ.l i,0,none⟩))
 |agg (cs:List M) (c:Array Value) (e:c.size=cs.length) (j:∀(i:Nat) (v:Value),c[i]?=some v->flat v=true) (h:∀(i:Nat) (m:M) (v:Value),cs[i]?=some m->c[i]?=some v->RM σ m v):RM σ (.agg cs) (.agg c)
 |fn (f:Nat) (cs:List M) (c:Array Value) (j:f<1024) (e:c.size=cs.length) (h:∀(i:Nat) (m:M) (v:Value),cs[i]?=some m->c[i]?=some v->RM σ m v):RM σ (.fn f cs) (.func (.func f) #[] c)
 |xe (f g:Nat) (cs:List M) (c:Array Value) (j:g=f+1024) (e:c.size=cs.length) (h:∀(i:Nat) (m:M) (v:Value),cs[i]?=some m->c[i]?=some v->RM σ m v):RM σ (.fn g cs) (.func (.func f) c #[])
 |c_ (cs:List M) (c:Array Value) (e:c.size=cs.length) (h:∀(i:Nat) (m:M) (v:Value),cs[i]?=some m->c[i]?=some v->RM σ m v):RM σ (.c_ cs) (.tuple c)
 |undef (v:Value):RM σ .undef v
structure db(σ τ:Sg):Prop where
 cell:∀b o v,ea σ.w b o=some v->¬σ.O b o->ea τ.w b o=some v/\¬τ.O b o
 box:∀(i:Nat) cs,σ.H[i]?=some (.box cs)->(∃MP,τ.H[i]?=some (.box MP))/\τ.l i=σ.l i
 map:∀(i:Nat) es,σ.H[i]?=some (.map es)->(∃a,τ.H[i]?=some (.map a))/\τ.l i=σ.l i
 iter:∀(i:Nat) x,σ.H[i]?=some (.iter x)->(∃a,τ.H[i]?=some (.iter a))/\τ.l i=σ.l i
 dead:∀i:Nat,σ.H[i]?=some .dead->τ.H[i]?=some .dead
 row:∀(i:Nat) acc ec MF cs,σ.H[i]?=some (.row acc ec MF cs)->τ.H[i]?=some .dead\/∃c a MP,τ.H[i]?=some (.row c ec a MP)/\MF<=a/\
  (a=MF->τ.l i=σ.l i/\MP.length=cs.length/\∀arr T,σ.w.heap[σ.l i]?=some (.cells arr T (0,0))->∃a,τ.w.heap[σ.l i]?=some (.cells a T (0,0))/\a.size=arr.size)
 free:∀i:Nat,σ.H[i]?=some .free->∃ob,τ.H[i]?=some ob
def db.refl(σ:Sg):db σ σ:=
 ⟨λ_ _ _ h a=>⟨h,a⟩,λ_ a h=>⟨⟨a,h⟩,rfl⟩,λ_ a h=>⟨⟨a,h⟩,rfl⟩,λ_ x h=>⟨⟨x,h⟩,rfl⟩,λ_ h=>h,
 λ_ c a b a h=>.inr ⟨c,b,a,h,ah9 _,λ_=>⟨rfl,rfl,λa T h=>⟨a,h,rfl⟩⟩⟩,λ_ h=>⟨_,h⟩⟩
def db.has(h:db σ τ)(i:Nat)(ob:Ob)(hi:σ.H[i]?=some ob):∃NX,τ.H[i]?=some NX:=by
 cases ob with
 |box b=>obtain⟨⟨c,a⟩,_⟩:=h.box i b hi;exact⟨_,a⟩
 |map b=>obtain⟨⟨c,a⟩,_⟩:=h.map i b hi;exact⟨_,a⟩
 |iter b=>obtain⟨⟨c,a⟩,_⟩:=h.iter i b hi;exact⟨_,a⟩
 |dead=>exact⟨_,h.dead i hi⟩
 |free=>exact h.free i hi
 |row e c d b=>
  rcases h.row i e c d b hi with a|⟨_,_,_,a,_⟩
  .exact⟨_,a⟩
  .exact⟨_,a⟩
def db.trans{e:Sg}(h:db σ τ)(k:db τ e):db σ e:=by
 refine⟨?_,?_,?_,?_,?_,?_,λi c=>let⟨p,a⟩:=h.free i c;k.has i p a⟩
 .intro b o v c a;obtain⟨d,f⟩:=h.cell b o v c a;exact k.cell b o v d f
 .intro i g c;obtain⟨⟨j,d⟩,f⟩:=h.box i g c;obtain⟨l,m⟩:=k.box i j d;exact⟨l,m.trans f⟩
 .intro i g c;obtain⟨⟨j,d⟩,f⟩:=h.map i g c;obtain⟨l,m⟩:=k.map i j d;exact⟨l,m.trans f⟩
 .intro i g c;obtain⟨⟨j,d⟩,f⟩:=h.iter i g c;obtain⟨l,m⟩:=k.iter i j d;exact⟨l,m.trans f⟩
 .exactλi a=>k.dead i (h.dead i a)
 .intro i M f g o n;rcases h.row i M f g o n with a|⟨r,c,q,a,s,t⟩
  .exact .inl (k.dead i a)
  .rcases k.row i r f c q a with d|⟨u,j,w,d,x,y⟩
   .exact .inl d
   .refine .inr ⟨u,j,w,d,aiz s x,λO=>?_⟩;have z:c=g:=by omega
    have A:j=c:=by omega
    obtain⟨l,B,C⟩:=t z;obtain⟨D,E,m⟩:=y A;refine⟨D.trans l,E.trans B,λN T F=>?_⟩;obtain⟨G,H,I⟩:=C N T F;rw[l]at m;obtain⟨J,K,L⟩:=m G T H;exact⟨J,K,L.trans I⟩
def RM.mono(a:db σ τ){m:M}(h:RM σ m v):RM τ m v:=by
 have g:∀(i a:Nat),(σ.H[i]?=some .dead\/∃j f c g,σ.H[i]?=some (.row j f c g)/\a<=c)->
   (τ.H[i]?=some .dead\/∃j f c g,τ.H[i]?=some (.row j f c g)/\a<=c):=by
  intro i u h;rcases h with h|⟨t,f,j,l,n,o⟩
  .exact .inl (a.dead i h)
  .rcases a.row i t f j l n with c|⟨p,q,r,c,s,_⟩
   .exact .inl c
   .exact .inr ⟨p,f,q,r,c,aiz o s⟩
 have k:∀(i f:Nat) g a c,(σ.H[i]?=some .dead\/∃g a j c,σ.H[i]?=some (.row g a j c)/\f<=j)->τ.H[i]?=some (.row g a f c)->
   ∃j g,σ.H[i]?=some (.row j a f g)/\τ.l i=σ.l i/\c.length=g.length/\∀c T,σ.w.heap[σ.l i]?=some (.cells c T (0,0))->∃a,τ.w.heap[σ.l i]?=some (.cells a T (0,0))/\a.size=c.size:=by
  intro i B I C D A c;rcases A with h|⟨l,q,n,o,j,E⟩
  .have:=a.dead i h;rw[this]at c;cases c
  .rcases a.row i l q n o j with f|⟨F,p,G,f,H,r⟩
   .rw[f]at c;cases c
   .rw[f]at c;injection c with c
    injection c with s t u w
    subst s;subst t;subst w;subst u;have e:n=p:=by omega
    subst e;obtain⟨x,y,z⟩:=r W;exact⟨l,o,j,x,y,z⟩
 induction h with
 |d h=>exact .d (h.mono a.cell)
 |ref i n c h=>
  obtain⟨⟨l,f⟩,j⟩:=a.box i c h;rw[<-j];exact .ref i n l f
 |bZ i c G l H j x=>
  refine .bZ i c G l H (g i c j) λE f n w=>?_
  obtain⟨s,t,o,p,q,r⟩:=k i c E f n j w;obtain⟨y,z,F,T,A,B⟩:=x s f t o;obtain⟨u,C,D⟩:=r F T A;rw[p];exact⟨y,q.trans z,u,T,C,D.trans B⟩
 |cz i c u b j s=>
  refine .cz i c u b (g i c j) λt f l r=>?_
  obtain⟨p,q,n,o,w,x⟩:=k i c t f l j r;rw[o];exact s p f q n
 |mp i j h=>
  obtain⟨⟨l,c⟩,f⟩:=a.map i j h;rw[<-f];exact .mp i l c
 |it i x h=>
  obtain⟨⟨j,c⟩,f⟩:=a.iter i x h;rw[<-f];exact .it i j c
 |agg c f i j h l=>exact .agg c f i j l
 |fn f c i n j h l=>exact .fn f c i n j l
 |xe f c i j o l h n=>exact .xe f c i j o l n
 |c_ c f i h j=>exact .c_ c f i j
 |undef v=>exact .undef v
end Go.Mt
namespace Go.Mt
variable{σ τ:Sg}{es M':List (D×M)}{e:D×M}{c:Code}{id clock:Nat}{ms:List M}{vs:Array Value}{M1:Array MapEntry}{v:Value}{u:MapEntry}
def n6(σ:Sg)(ms:List M)(a:Array Value):Prop:=
 a.size=ms.length/\∀(i:Nat) (m:M) (v:Value),ms[i]?=some m->a[i]?=some v->RM σ m v
def n6.mono(a:db σ τ)(h:n6 σ ms vs):n6 τ ms vs:=
 ⟨h.1,λi m v b c=>(h.2 i m v b c).mono a⟩
def jy(σ:Sg)(ms:List M)(a:Array Value):Prop:=
 a.size=ms.length/\∀(i:Nat) (m:M) (v:Value),ms[i]?=some m->a[i]?=some v->RM σ m v/\flat v=true
def jy.mono(c:db σ τ)(h:jy σ ms vs):jy τ ms vs:=
 ⟨h.1,λi m v a b=>⟨(h.2 i m v a b).1.mono c,(h.2 i m v a b).2⟩⟩
def Ob.live:Ob->Prop
 |.dead=>False
 |.free=>False
 |_=>True
variable{ob:Ob}
def Ob.ji:Ob->Nat->Prop
 |.box _,_=>True
 |.map _,_=>True
 |.iter _,_=>True
 |.row b _ _ a,o=>b=false\/a.length<=o
 |.dead,_=>False
 |.free,_=>False
def Ob.lT{o:Nat}(h:ob.ji o):ob.live:=by cases ob<;>first|trivial|exact h
def xk:D->Option Value
 |.str s=>some (.string s)
 |.int k n=>some (.int k n)
 |_=>none
def pv(σ:Sg)(c:Nat)(e:D×M)(u:MapEntry):Prop:=(xk e.1=some u.key/\RM σ e.2 u.val)\/(e.1=.oe/\RM σ e.2 (.tuple #[u.key,u.val]))\/(e.1=.jA/\RM σ e.2 (.tuple #[u.key,u.val,.int .i64 u.born,.int .i64 c]))
def dT(a es:List (D×M)):Prop:=a=es\/(a.Perm es/\(∀e∈es,∃s,e.1=.str s)/\(es.map Prod.fst).Nodup)
def dT.mem(h:dT M' es):e∈M'↔e∈es:=by
 rcases h with rfl|⟨h,_⟩
 .exact aj2
 .exact h.mem_iff
def dT.len(h:dT M' es):M'.length=es.length:=by
 rcases h with rfl|⟨h,_⟩
 .rfl
 .exact h.length_eq
def dT.map(h:dT M' es)(f:M->M):dT (M'.map λe=>(e.1,f e.2)) (es.map λe=>(e.1,f e.2)):=by
 rcases h with rfl|⟨a,b,c⟩
 .exact .inl W
 .refine .inr ⟨a.map _,λe d=>?_,?_⟩
  .obtain⟨g,i,rfl⟩:=aij.1 d;exact b g i
  .rw[akA];exact c
def zI{α β:Type}{f:α->β}{d m:List β}(h:d.Perm m):∀l:List α,m=l.map f->∃a:List α,a.Perm l/\a.map f=d:=by
 induction h with
 |nil=>
     intro l a;have:l=[]:=by simpa using a.symm
     subst this;exact⟨[],.nil,W⟩
 |cons x _ g=>
  intro l a;cases l with
  |nil=>simp at a
  |cons c l=>
   simp at a;obtain⟨rfl,i⟩:=a;obtain⟨e,j,rfl⟩:=g l i;exact⟨c::e,j.cons c,W⟩
 |swap x y e=>
  intro l a
  match l,a with
  |[],a=>simp at a
  |[c],a=>simp at a
  |c::b::l,a=>
   simp at a;obtain⟨rfl,rfl,rfl⟩:=a;exact⟨b::c::l,.swap c b l,W⟩
 |trans _ _ j k=>
  intro l c;obtain⟨i,n,e⟩:=k l c;obtain⟨a,g,o⟩:=j i e.symm;exact⟨a,g.trans n,o⟩
def dT.KU{a:List (D×M)}{f:M->M}(h:dT a (es.map λe=>(e.1,f e.2))):∃b,dT b es/\a=b.map λe=>(e.1,f e.2):=by
 rcases h with rfl|⟨d,g,b⟩
 .exact⟨es,.inl W,W⟩
 .obtain⟨c,i,j⟩:=zI d es W;refine⟨c,.inr ⟨i,λe k=>?_,?_⟩,j.symm⟩
  .exact g (e.1,f e.2) (aij.2 ⟨e,k,W⟩)
  .rw[akA]at b;exact b
def lU(a:Array MapEntry)(b:Nat):Prop:=(∀(i:Nat) u,a[i]?=some u->u.born<b)/\∀(i j:Nat) u v,a[i]?=some u->a[j]?=some v->u.born=v.born->i=j
def lU.push{k v:Value}(h:lU M1 clock):lU (M1.push {key:=k,val:=v,born:=clock}) (clock+1):=by
 refine⟨λi u a=>?_,λi j u v a b e=>?_⟩
 .rw[ajD]at a;split at a
  .injection a with a;subst a;exact ajU _
  .exact Nat.lt_succ_of_lt (h.1 i u a)
 .rw[ajD]at a b;split at a<;>split at b
  .omega
  .injection a with a;subst a;have:=h.1 j v b;simp only at e;omega
  .injection b with b;subst b;have:=h.1 i u a;simp only at e;omega
  .exact h.2 i j u v a b e
def lU.modify{n:Nat}{f:MapEntry->MapEntry}(h:lU M1 clock)(d:∀e,(f e).born=e.born):lU (M1.modify n f) clock:=by
 have b:∀(i:Nat) u,(M1.modify n f)[i]?=some u->∃a,M1[i]?=some a/\u.born=a.born:=by
  intro i u a;rw[ajW]at a;split at a
  .obtain⟨c,g,rfl⟩:=aiE.1 a;exact⟨c,g,d c⟩
  .exact⟨u,a,W⟩
 refine⟨λi u a=>?_,λi j u v a k e=>?_⟩
 .obtain⟨c,g,l⟩:=b i u a;rw[l];exact h.1 i c g
 .obtain⟨c,g,l⟩:=b i u a;obtain⟨m,o,p⟩:=b j v k;exact h.2 i j c m g o (by rw[<-l,<-p];exact e)
def mg(a:Option Nat)(since:Nat)(seen:Array Nat):Value:=.tuple (#[.map a,.int .i64 since]++seen.map λb=>.int .i64 b)
def pv.Mb{c a:Nat}(h:pv σ c e u)(b:e.1≠.jA):pv σ a e u:=by
 rcases h with h|h|⟨d,f⟩
 .exact .inl h
 .exact .inr (.inl h)
 .exact absurd d b
def pv.up{c:Nat}{m:M}(h:pv σ c e u)(d:∀v,RM σ e.2 v->RM τ m v):pv τ c (e.1,m) u:=by
 rcases h with⟨a,b⟩|⟨a,b⟩|⟨a,b⟩
 .exact .inl ⟨a,d _ b⟩
 .exact .inr (.inl ⟨a,d _ b⟩)
 .exact .inr (.inr ⟨a,d _ b⟩)
def fN(σ:Sg)(b:Nat):Ob->Prop
 |.box c=>∃a T,σ.w.heap[b]?=some (.cells a T (0,0))/\jy σ c a
 |.row g c f d=>0<c/\∃a T f n,σ.w.heap[b]?=some (.cells a T (0,0))/\a.size=f*c/\n<=f/\(d.length=n*c/\n<=140737488355328)/\
   ∀(i:Nat) (m:M) (v:Value),d[i]?=some m->a[i]?=some v->RM σ m v/\flat v=true
 |.map es=>∃d,dT d es/\∃c f,σ.w.heap[b]?=some (.map c f)/\c.size=d.length/\(∀(i:Nat) e u,d[i]?=some e->c[i]?=some u->pv σ f e u)/\lU c f
 |.iter x=>(∃a d c last,σ.w.heap[b]?=some (.mapIter a d c last)/\((c= #[]/\RM σ x (.map a))\/(RM σ x (mg a d c)/\d=last)))\/
   ∃a T,σ.w.heap[b]?=some (.cells a T (0,0))/\RM σ x (.tuple (#[.int .i64 b,.int .i64 (T:Nat)]++a))
 |.dead=>True
 |.free=>True
structure iH(σ:Sg)(a:Nat->Nat->Prop):Prop where
 obj:∀(i:Nat) ob,σ.H[i]?=some ob->fN σ (σ.l i) ob
 inj:∀(i j:Nat) x y,σ.H[i]?=some x->σ.H[j]?=some y->x.live->y.live->σ.l i=σ.l j->i=j
 own:∀b o,σ.O b o↔a b o\/∃(i:Nat) (ob:Ob),σ.H[i]?=some ob/\σ.l i=b/\ob.ji o
 sep:∀(i:Nat) ob,σ.H[i]?=some ob->ob.live->∀o,¬a (σ.l i) o
 iW:∀b o,a b o->b<σ.w.heap.size
def fN.lt{b:Nat}(h:fN σ b ob)(d:ob.live):b<σ.w.heap.size:=by
 have a:∀x:Obj,σ.w.heap[b]?=some x->b<σ.w.heap.size:=by
  intro x f;rcases ais b σ.w.heap.size with h|h
  .exact h
  .simp[aiG h]at f
 cases ob with
 |box g=>obtain⟨i,T,f,_⟩:=h;exact a _ f
 |row l i j g=>obtain⟨_,k,T,m,n,f,_⟩:=h;exact a _ f
 |map g=>obtain⟨_,_,e,c,f,_⟩:=h;exact a _ f
 |iter x=>rcases h with⟨_,_,_,_,f,_⟩|⟨_,_,f,_⟩<;>exact a _ f
 |dead=>exact d.elim
 |free=>exact d.elim
def iH.Fe{c:Nat->Nat->Prop}(h:iH σ c):∀b o,σ.O b o->b<σ.w.heap.size:=by
 intro b o d;rcases(h.own b o).1 d with a|⟨i,e,a,f,g⟩
 .exact h.iW b o a
 .rw[<-f];exact(h.obj i e a).lt (Ob.lT g)
structure bF(σ τ:Sg):Prop where
 os:τ.w.os=σ.w.os
 output:τ.w.output=σ.w.output
 tape:τ.w.tape=σ.w.tape
 size:σ.w.heap.size<=τ.w.heap.size
 aT:∀b,b<σ.w.heap.size->(∀(i:Nat) ob,σ.H[i]?=some ob->ob.live->σ.l i≠b)->τ.w.heap[b]?=σ.w.heap[b]?
 loc:∀(i:Nat) ob,τ.H[i]?=some ob->ob.live->σ.w.heap.size<=τ.l i\/∃NX,σ.H[i]?=some NX/\NX.live/\τ.l i=σ.l i
def bF.refl(σ:Sg):bF σ σ:=⟨rfl,rfl,rfl,ah9 _,λ_ _ _=>rfl,λi a h b=>.inr ⟨a,h,b,rfl⟩⟩
def bF.trans{d:Sg}(h:bF σ τ)(k:bF τ d):bF σ d:=by
 refine⟨k.os.trans h.os,k.output.trans h.output,k.tape.trans h.tape,aiz h.size k.size,?_,?_⟩
 .intro b a c;rw[k.aT b (ajH a h.size) ?_,h.aT b a c];intro i f g j l;rcases h.loc i f g j with e|⟨m,e,n,o⟩
  .omega
  .exact c i m e n (by rw[<-o];exact l)
 .intro i f g j;rcases k.loc i f g j with a|⟨l,a,m,e⟩
  .exact .inl (aiz h.size a)
  .rcases h.loc i l a m with c|⟨n,c,o,p⟩
   .exact .inl (by rw[e];exact c)
   .exact .inr ⟨n,c,o,e.trans p⟩
inductive RV(σ:Sg)(MH:Nat->Nat):V->Value->Prop where
 |m {x:M} {v:Value} (h:RM σ x v):RV σ MH (.m x) v
 |loc (t off:Nat):RV σ MH (.loc t off) (.pointer (some ⟨MH t,off,none⟩))
 |tl (i MF off len:Nat) (a:Option Addr) (cap:Nat)
   (hle:σ.H[i]?=some .dead\/∃acc ec b cs,σ.H[i]?=some (.row acc ec b cs)/\MF<=b)
   (ND:∀acc ec cs,σ.H[i]?=some (.row acc ec MF cs)->(cap≠0->a=some ⟨σ.l i,off*ec,none⟩)/\cs.length=(off+len)*ec/\∃arr T,σ.w.heap[σ.l i]?=some (.cells arr T (0,0))/\arr.size=(off+cap)*ec):
   RV σ MH (.tl i MF off len) (.slice a len cap)
def RV.mono{MH:Nat->Nat}(b:db σ τ){x:V}(h:RV σ MH x v):RV τ MH x v:=by
 cases h with
 |m h=>exact .m (h.mono b)
 |loc t a=>exact .loc t a
 |tl i q L M r N o s=>
  refine .tl i q L M r N ?_ λp c f a=>?_
  .rcases o with h|⟨p,c,g,f,j,k⟩
   .exact .inl (b.dead i h)
   .rcases b.row i p c g f j with d|⟨l,n,t,d,u,_⟩
    .exact .inl d
    .exact .inr ⟨l,c,n,t,d,aiz k u⟩
  .rcases o with h|⟨j,k,l,n,g,P⟩
   .have:=b.dead i h;rw[this]at a;cases a
   .rcases b.row i j k l n g with d|⟨Q,t,R,d,S,u⟩
    .rw[d]at a;cases a
    .rw[d]at a;injection a with a
     injection a with w y z A
     subst w;subst y;subst A;subst z;have e:l=t:=by omega
     subst e;obtain⟨B,C,D⟩:=u W;obtain⟨E,F,O,T,G,H⟩:=s j k n g;obtain⟨I,J,K⟩:=D O T G;rw[B];exact⟨E,C.trans F,I,T,J,K.trans H⟩
def mx(a:Nat->Nat->Prop)(MH:Nat->Nat)(bx:List (Nat×List M))(b o:Nat):Prop:=
 a b o\/∃t a,get bx t=some a/\MH t=b
structure cQ where
 P:Program
 n:Nat
 s0:Sg
 jB:Nat->Nat->Prop
 df:List Deferred
structure bU(X:cQ)(σ:Sg)(MH:Nat->Nat)(st:St)(a:Act):Prop where
 hH:σ.H=st.H
 defers:a.defers=X.df
 size:a.tmps.size=X.n
 slot:∀t v,get st.sl t=some v->∃u,a.tmps[t]?=some u/\RV σ MH v u
 box:∀t cs,get st.bx t=some cs->fN σ (MH t) (.box cs)
 og:∀t u cs ds,get st.bx t=some cs->get st.bx u=some ds->MH t=MH u->t=u
 oR:∀t cs,get st.bx t=some cs->∀o,¬X.jB (MH t) o
 oS:∀t cs,get st.bx t=some cs->X.s0.w.heap.size<=MH t
 hinv:iH σ (mx X.jB MH st.bx)
 mono:db X.s0 σ
 aT:bF X.s0 σ
def Inv(X:cQ)(st:St)(a:Act)(w:World):Prop:=∃b c,b.w=w/\bU X b c st a
def TC(X:cQ)(c:Code)(st:St)(post:Exit->St->Prop):Prop:=
 ∀a w,Inv X st a w->c.wp X.P (λe b d=>∃a,post e a/\Inv X a b d) a w
def TL(X:cQ)(ops:Array Oper)(l:List Oper)(st:St)(post:St->Prop):Prop:=
 ∀a w,Inv X st a w->wpList X.P ops (λe b c=>e=.normal/\∃a,post a/\Inv X a b c) l a w
def after(post:Exit->St->Prop)(k:St->Prop):Exit->St->Prop
 |.normal,s=>k s
 |e,s=>post e s
section code
variable{X:cQ}{st:St}{post:Exit->St->Prop}
def TC.mono{a:Exit->St->Prop}(h:TC X c st post)(b:∀e s,post e s->a e s):TC X c st a:=
 λa w d=>wp_mono (h a w d) λe f g ⟨s,a,d⟩=>⟨s,b _ _ a,d⟩
def TC.seq{x y:Code}(h:TC X x st (after post λs=>TC X y s post)):TC X (.seq x y) st post:=by
 intro a w b;refine wp_seq (wp_mono (h a w b) ?_);intro e c d ⟨s,h1,h2⟩;cases e with
 |normal=>exact h1 c d h2
 |_=>exact⟨s,h1,h2⟩
def TC.skip(h:post .normal st):TC X .skip st post:= λa w a=>wp_skip ⟨st,h,a⟩
def TC.exit(h:post (.exit id) st):TC X (.exit id) st post:= λa w a=>wp_exit ⟨st,h,a⟩
def TC.ret(h:post .ret st):TC X .ret st post:= λa w a=>wp_ret ⟨st,h,a⟩
def nu(id:Nat)(post:Exit->St->Prop):Exit->St->Prop
 |.exit i,s=>if i=id then post .normal s else post (.exit i) s
 |e,s=>post e s
def TC.block(h:TC X c st (nu id post)):TC X (.block id c) st post:=by
 intro b w d;refine wp_block (wp_mono (h b w d) ?_);intro e f g ⟨s,h1,h2⟩;cases e with
 |exit i=>
  simp only[nu]at h1;simp only[Exit.inBlock];by_cases a:i=id
  .rw[air a]at h1⊢;exact⟨s,h1,h2⟩
  .rw[aid a]at h1⊢;exact⟨s,h1,h2⟩
 |_=>exact⟨s,h1,h2⟩
def TC.loop(I:Nat->St->Prop)(b:Nat)(f:I b st)
  (n:∀k s,I k s->TC X c s (after post λb=>∃a,a<k/\I a b)):TC X (.loop c) st post:=by
 intro a w h;refine wp_loop_ghost (λk a w=>∃s,I k s/\Inv X s a w) b ⟨st,f,h⟩ ?_;rintro k a w ⟨s,i,j⟩;refine wp_mono (n k s i a w j) ?_;intro e o p ⟨d,h3,h4⟩;cases e with
 |normal=>obtain⟨g,l,m⟩:=h3;exact⟨g,l,d,m,h4⟩
 |_=>exact⟨d,h3,h4⟩
def TC.region{ops:List Oper}(h:TL X ops.toArray ops st (post .normal)):TC X (.region id ops.toArray false) st post:=by
 intro a w f;refine wp_region_lit ?_;have m:∀l a w,wpList X.P ops.toArray (λe b c=>e=.normal/\∃a,post .normal a/\Inv X a b c) l a w->
   wpList X.P ops.toArray (λe b c=>∃a,post e a/\Inv X a b c) l a w:=by
  have b:∀(e:Exit) a w,(e=.normal/\∃b,post .normal b/\Inv X b a w)->∃b,post e b/\Inv X b a w:=by
   rintro e a w ⟨rfl,h⟩;exact h
  have d:∀(Q b:Exit->Act->World->Prop),(∀e a w,Q e a w->b e a w)->LetsOut Q->LetsOut b:= λQ g h ⟨a,w,q⟩=>⟨a,w,h _ _ _ q⟩
  have up:∀(o:Oper) (a:Act) (w:World) (next c:Act->World->Prop) (Q b:Exit->Act->World->Prop),(∀a w,next a w->c a w)->(∀e a w,Q e a w->b e a w)->o.wp X.P a w next Q->o.wp X.P a w c b:=by
   intro o a w next k Q g hn b h
   unfold Oper.wp at*;generalize (execOp a.eval o).run X.P w=r at*;cases r with
   |ok x i=>
    cases x<;>simp only[Oper.upon]at h⊢ <;>
     first
      |exact hn _ _ h
      |exact Calls.mono h (λe j c=>by cases e<;>first|exact hn _ _ c|exact b _ _ _ c|exact d _ _ b c)
      |exact Rows.mono h (λ_ _ a=>hn _ _ a)
      |exact h
   |halt x c=>cases x<;>simp only[Oper.upon]at h⊢ <;>first|exact b _ _ _ h|exact h
  intro l
  induction l with
  |nil=>intro a w h;exact b _ _ _ h
  |cons o l c=>
   intro a w h;unfold wpList at h⊢;split
   .rename_i i;rw[air i]at h;rcases h with h|⟨j,k⟩
    .exact .inl (up o a w _ _ _ _ c b h)
    .exact .inr ⟨j,d _ _ b k⟩
   .rename_i i;rw[aid i]at h;exact c _ _ h
 exact m _ _ _ (h a w f)
end code
end Go.Mt
namespace Go.Mt
variable{x y c:Operand}{o:Oper}{X:cQ}{v:V}{st s:St}{a:Act}{w w':World}{σ:Sg}{MH:Nat->Nat}{ops:Array Oper}{post:St->Prop}{rest:List Oper}{P:Program}{d xt yt:Nat}{k:IntKind}{n m:Int}{ρ:Operand->Value}{b:Bool}{O:Nat->Nat->Prop}{u:Value}{Qd:V->St->Prop}
def dy(P:Program)(o:Oper)(ρ:Operand->Value)(w:World)(post:Value->World->Prop):Prop:=
 match(execOp ρ o).run P w with
 |.ok (.value u) w'=>post u w'
 |.ok .skip w'=>post undef w'
 |.ok (.enter f a) w'=>Calls P f a w' λe a=>∃u,e=.returned u/\post u a
 |_=>False
def dy.value{post:Value->World->Prop}
  (h:(execOp ρ o).run P w=.ok (.value u) w') (a:post u w'):dy P o ρ w post:=by
 unfold dy;rw[h];exact a
def dy.skip{post:Value->World->Prop}
  (h:(execOp ρ o).run P w=.ok .skip w') (a:post undef w'):dy P o ρ w post:=by
 unfold dy;rw[h];exact a
def dy.enter{f:Nat}{args:Array Value}{post:Value->World->Prop}
  (h:(execOp ρ o).run P w=.ok (.enter f args) w') (a:Calls P f args w' λe a=>∃u,e=.returned u/\post u a):dy P o ρ w post:=by
 unfold dy;rw[h];exact a
def dy.wp{post:Value->World->Prop}{next:Act->World->Prop}{Q:Exit->Act->World->Prop}
  (h:dy P o a.eval w post) (b:∀u b,post u b->next (a.put o.dst u) b):o.wp P a w next Q:=by
 unfold dy at h;unfold Oper.wp;generalize (execOp a.eval o).run P w=r at*;cases r with
 |ok x f=>
  cases x<;>simp only[Oper.upon]at h⊢ <;>
   first
    |exact b _ _ h
    |exact h.elim
    |exact Calls.mono h (λe g ⟨u,c,d⟩=>by subst c;exact b _ _ d)
 |halt x c=>simp at h
def cD(X:cQ)(o:Oper)(st:St)(post:V->St->Prop):Prop:=
 ∀a b c,bU X b c st a->dy X.P o a.eval b.w λu e=>∃v c b d,post v c/\b.w=e/\bU X b d c a/\RV b d v u
def iM(ops:Array Oper)(o:Oper)(st:St):Option Bool:=
 match o.guard with
 |none=>some true
 |some (j,a)=>match(ops[j]?).bind (·.dst)with
  |some g=>match get st.sl g with
   |some (.m (.d (.bool b)))=>some (b==a)
   |some (.m (.c_ []))=>some false
   |_=>none
  |none=>none
def bP{α:Type}(k t:Nat)(v:α)(l:List (Nat×α)):get ((k,v)::l) t=if k=t then some v else get l t:=by
 show(bif Nat.beq k t then some v else get l t)=_;by_cases h:k=t
 .subst h;simp
 .have:Nat.beq k t=false:=by rw[<-akj];intro e;exact h (aiw e)
  rw[this,aid h];rfl
def bU.set{sl:List (Nat×V)}{bx:List (Nat×List M)}{H:Hp}
  (h:bU X σ MH ⟨sl,bx,H⟩ a) (c:d<X.n) (f:RV σ MH v u):bU X σ MH ⟨(d,v)::sl,bx,H⟩ (a.put (some d) u):=by
 refine⟨h.hH,h.defers,?_,?_,h.box,h.og,h.oR,h.oS,h.hinv,h.mono,h.aT⟩
 .simp[Act.put,h.size]
 .intro t x b;simp only[bP]at b;by_cases e:d=t
  .subst e;simp at b;subst b;refine⟨u,?_,f⟩;simp[Act.put,h.size,c]
  .rw[aid e]at b;obtain⟨g,i,j⟩:=h.slot t x b;refine⟨g,?_,j⟩;simp[Act.put,aiT e,i]
def bU.wanted(h:bU X σ MH st a)
  (c:iM ops o st=some b):Region.wanted o (yielded ops a.tmps)=b:=by
 unfold iM at c;unfold Region.wanted;split at c
 .rename_i f;simp only[f];injection c with e
 .rename_i r i j;simp only[j];split at c
  .rename_i s f;split at c
   .rename_i g k;obtain⟨u,l,n⟩:=h.slot _ _ k;cases n with
    |m p=>cases p with
     |d q=>cases q with
      |bool g=>
       injection c with e
       subst e;simp only[yielded,f,akN,l];cases g<;>cases i<;>rfl
   .rename_i g;obtain⟨u,k,l⟩:=h.slot _ _ g;cases l with
    |m n=>cases n with
     |c_ p q t v=>
      injection c with e
      subst e;simp only[yielded,f,akN,k];cases i<;>rfl
   .cases c
  .cases c
def bj{a b:Nat}(h:Nat.blt a b=true):a<b:=by rw[alc]at h;exact h
def TL.op
  (e:iM ops o st=some true) (f:o.dst=some d) (g:Nat.blt d X.n=true) (h:cD X o st Qd)
  (k:∀v s,Qd v s->TL X ops rest ⟨(d,v)::s.sl,s.bx,s.H⟩ post):TL X ops (o::rest) st post:=by
 rintro b w ⟨c,i,rfl,a⟩;unfold wpList;rw[air (a.wanted e)];refine .inl ((h b c i a).wp ?_);rintro u r ⟨v,s,j,l,m,n,p,q⟩;rw[f];exact k v s m _ _ ⟨j,l,n,p.set (bj g) q⟩
def TL.Mc
  (d:iM ops o st=some true) (e:o.dst=none) (h:cD X o st Qd)
  (k:∀v s,Qd v s->TL X ops rest s post):TL X ops (o::rest) st post:=by
 rintro b w ⟨c,f,rfl,a⟩;unfold wpList;rw[air (a.wanted d)];refine .inl ((h b c f a).wp ?_);rintro u n ⟨v,s,g,i,j,l,m,p⟩;rw[e];exact k v s j _ _ ⟨g,i,l,m⟩
def TL.skip
  (a:iM ops o st=some false) (b:o.dst=some d) (c:Nat.blt d X.n=true)
  (k:TL X ops rest ⟨(d,.m (.c_ []))::st.sl,st.bx,st.H⟩ post):TL X ops (o::rest) st post:=by
 intro e w ⟨σ,MH,R2,hi⟩;unfold wpList;rw[aid (by rw[hi.wanted a];simp)];rw[b];exact k _ _ ⟨σ,MH,R2,hi.set (bj c) (.m (.c_ [] #[] W (by intro i m v h;simp at h)))⟩
def TL.nil(h:post st):TL X ops [] st post:=
 λa w a=>⟨rfl,st,h,a⟩
def dq(v:V)(st:St):V->St->Prop:= λa b=>a=v/\b=st
def TL.kO
  (a:iM ops o st=some true) (b:o.dst=some d) (c:Nat.blt d X.n=true) (h:cD X o st (dq v s))
  (k:TL X ops rest ⟨(d,v)::s.sl,s.bx,s.H⟩ post):TL X ops (o::rest) st post:=
 TL.op a b c h λg i ⟨e,f⟩=>by subst e;subst f;exact k
def TL.Ff
  (a:iM ops o st=some true) (b:o.dst=none) (h:cD X o st (dq v s))
  (k:TL X ops rest s post):TL X ops (o::rest) st post:=
 TL.Mc a b h λe f ⟨c,d⟩=>by subst c;subst d;exact k
def MN(h:∀b a c,bU X a c st b->∃u,(execOp b.eval o).run X.P a.w=.ok (.value u) a.w/\RV a c v u):
  cD X o st (dq v st):=by
 intro d a b c;obtain⟨u,e,f⟩:=h d a b c;exact dy.value e ⟨v,st,a,b,⟨W,W⟩,W,c,f⟩
def tI{v:Value}{d:D}(h:oQ v=some d):gO O w d v:=by
 unfold oQ at h;split at h<;>first
  |(injection h with h;subst h;constructor)
  |cases h
def sn{O:Nat->Nat->Prop}{w:World} :∀{a:List Value} {ds:List D},kw a=some ds->
  a.length=ds.length/\∀(i:Nat) d v,ds[i]?=some d->a[i]?=some v->gO O w d v
 |[],ds,h=>by simp[kw]at h;subst h;simp
 |v::r,ds,h=>by
  simp only[kw]at h;split at h
  .rename_i d l c e;injection h with h;subst h
   obtain⟨f,g⟩:=sn (O:=O) (w:=w) e;refine⟨by simp[f],λi j k a b=>?_⟩;cases i with
   |zero=>simp at a b;subst a;subst b;exact tI c
   |succ i=>simp at a b;exact g i j k a b
  .cases h
def zJ{v:Value}{d:D}(h:oQ v=some d):flat v=true:=by
 unfold oQ at h;split at h<;>first|rfl|cases h
def qp:∀{a:List Value} {ds:List D},kw a=some ds->∀(i:Nat) (v:Value),a[i]?=some v->flat v=true
 |[],ds,h,i,v,a=>by simp at a
 |x::r,ds,h,i,v,a=>by
  simp only[kw]at h;split at h
  .rename_i d e b c;cases i with
   |zero=>simp at a;subst a;exact zJ b
   |succ i=>simp at a;exact qp c i v a
  .cases h
def e9{v:Value}{d:D}(h:pt v=some d):gO O w d v:=by
 unfold pt at h;split at h
 .rename_i b;cases a:kw b.toList with
  |none=>simp[a]at h
  |some c=>
   simp[a]at h;subst h;obtain⟨e,f⟩:=sn (O:=O) (w:=w) a;exact .agg c b (by simpa using e) (λi v b=>qp a i v (by simpa using b)) (λi d v b a=>f i d v b (by simpa using a))
 .exact tI h
def bU.ev(h:bU X σ MH st a)(b:st.ev x=some v):
  RV σ MH v (a.eval x):=by
 cases x with
 |tmp t=>
  obtain⟨u,e,f⟩:=h.slot t v b;have:a.eval (.tmp t)=u:=by simp[Act.eval,e]
  rw[this];exact f
 |const c=>
  simp only[St.ev,aS]at b;cases e:pt c with
  |none=>simp[e]at b
  |some d=>simp[e]at b;subst b;exact .m (.d (e9 e))
 |func f=>
  simp only[St.ev,aS]at b;injection b with b;subst b
  exact .m (.d (.fn f [] #[] W (by simp)))
 |global g=>simp[St.ev,aS]at b
section ops
variable{X:cQ}{st:St}{dst:Option Nat}{ty:Nat}{pos:String}{af:Array Edge}{g:Option (Nat×Bool)}
def xJ(a:st.ev x=some v):cD X ⟨dst,.move x,ty,pos,af,g⟩ st (dq v st):=
 MN λb b b b=>⟨_,by simp[execOp],b.ev a⟩
def sI(a:st.ev x=some v):cD X ⟨dst,.assign x,ty,pos,af,g⟩ st (dq v st):=
 MN λb b b b=>⟨_,by simp[execOp],b.ev a⟩
def bU.mN(h:bU X σ MH st a){d:D}(b:st.ev x=some (.m (.d d))):
  gO σ.O σ.w d (a.eval x):=by
 have:=h.ev b;cases this with
 |m h=>cases h with
  |d h=>exact h
def bU.xl(h:bU X σ MH st a)(c:st.ev x=some (.m (.d (.bool b)))):
  a.eval x=.bool b:=by
 have:=h.mN c;generalize a.eval x=u at*;cases this;rfl
def bU.jU(h:bU X σ MH st a)(b:st.ev x=some (.m (.d (.int k n)))):
  a.eval x=.int k n:=by
 have:=h.mN b;generalize a.eval x=u at*;cases this;rfl
def bU.pw(h:bU X σ MH st a){s:ByteArray}(b:st.ev x=some (.m (.d (.str s)))):
  a.eval x=.string s:=by
 have:=h.mN b;generalize a.eval x=u at*;cases this;rfl
def sJ(b:st.ev c=some (.m (.d (.bool true))))(d:st.ev x=some v):
  cD X ⟨dst,.pick c x y,ty,pos,af,g⟩ st (dq v st):=
 MN λa a a a=>⟨_,by simp[execOp,a.xl b,asBool],a.ev d⟩
def sK(b:st.ev c=some (.m (.d (.bool false))))(d:st.ev y=some v):
  cD X ⟨dst,.pick c x y,ty,pos,af,g⟩ st (dq v st):=
 MN λa a a a=>⟨_,by simp[execOp,a.xl b,asBool],a.ev d⟩
def iK:BinOp->IntKind->Int->Int->Option D
 |.add,k,a,b=>some (.int k (k.wrap (a+b)))
 |.sub,k,a,b=>some (.int k (k.wrap (a-b)))
 |.mul,k,a,b=>some (.int k (k.wrap (a*b)))
 |.eql,_,a,b=>some (.bool (a==b))
 |.neq,_,a,b=>some (.bool (a !=b))
 |.lss,_,a,b=>some (.bool (decide (a<b)))
 |.leq,_,a,b=>some (.bool (decide (a<=b)))
 |.gtr,_,a,b=>some (.bool (decide (a>b)))
 |.geq,_,a,b=>some (.bool (decide (a>=b)))
 |_,_,_,_=>none
def tJ{op:BinOp}{r:D}(c:st.ev x=some (.m (.d (.int k m))))(d:st.ev y=some (.m (.d (.int k n))))
  (a:iK op k m n=some r):cD X ⟨dst,.binOp op xt x y yt,ty,pos,af,g⟩ st (dq (.m (.d r)) st):=by
 refine MN λh i j b=>?_
 have e:=b.jU c;have f:=b.jU d;cases op<;>simp only[iK]at a<;>first|(injection a with a;subst a;refine⟨_,by simp[execOp,e,f,eqGuard,binOp,Op.intArith,Op.intCmp];rfl,?_⟩;exact .m (.d (by constructor)))|cases a
def Jx(b:st.ev x=some (.m (.d (.int k m))))(c:st.ev y=some (.m (.d (.int k n))))
  (d:(n==0)=false):cD X ⟨dst,.binOp .quo xt x y yt,ty,pos,af,g⟩ st (dq (.m (.d (.int k (k.wrap (m.tdiv n))))) st):=by
 refine MN λe f h a=>?_
 have e:=a.jU b;have b:=a.jU c;have a:¬n=0:=by simpa using d
 exact⟨_,by simp[execOp,e,b,eqGuard,binOp,Op.intDiv,a];rfl,.m (.d (by constructor))⟩
def Fg(b:st.ev x=some (.m (.d (.int k m))))(c:st.ev y=some (.m (.d (.int k n))))
  (d:(n==0)=false):cD X ⟨dst,.binOp .rem xt x y yt,ty,pos,af,g⟩ st (dq (.m (.d (.int k (m.tmod n)))) st):=by
 refine MN λe f h a=>?_
 have e:=a.jU b;have b:=a.jU c;have a:¬n=0:=by simpa using d
 exact⟨_,by simp[execOp,e,b,eqGuard,binOp,Op.intDiv,a];rfl,.m (.d (by constructor))⟩
def Bl(a:st.ev x=some (.m (.d (.bool b)))):cD X ⟨dst,.unOp .not xt x,ty,pos,af,g⟩ st (dq (.m (.d (.bool (!b)))) st):=by
 refine MN λd e f c=>?_
 have d:=c.xl a;exact⟨_,by simp[execOp,d,Op.unary];rfl,.m (.d (by constructor))⟩
def qt(a b:ByteArray):(a.toList==b.toList)=decide (a=b):=by
 rw[Bool.eq_iff_iff];simp;constructor
 .intro h;have:a.data.toList=b.data.toList:=by
   rw[ByteArray.toList_eq,ByteArray.toList_eq]at h;exact h
  cases a;cases b;simp at this;simp[this]
 .rintro rfl;rfl
end ops
end Go.Mt
namespace Go.Mt
variable{x y:Operand}{t o b off n s f i xt yt e:Nat}{w w':World}{P:Program}{σ:Sg}{d:D}{cs ds:List D}{v:Value}{O:Nat->Nat->Prop}{u:ByteArray}{X:cQ}{st:St}
structure fW(w w':World):Prop where
 os:w'.os=w.os
 output:w'.output=w.output
 tape:w'.tape=w.tape
 size:w.heap.size<=w'.heap.size
 aT:∀b,b<w.heap.size->w'.heap[b]?=w.heap[b]?
def fW.alloc(w:World)(o:Obj):fW w {w with heap:=w.heap.push o} :=
 ⟨rfl,rfl,rfl,by simp,λb a=>by simp[ajD];omega⟩
def fW.drew(w:World):fW w {w with drawn:=w.drawn+1} :=⟨rfl,rfl,rfl,ah9 _,λ_ _=>rfl⟩
def fH{x:Obj}(h:w.heap[b]?=some x):b<w.heap.size:=by
 rcases ais b w.heap.size with a|a
 .exact a
 .simp[aiG a]at h
def kR(h:ea w b o=some v):b<w.heap.size:=by
 unfold ea World.cell? at h;cases a:w.heap[b]? with
 |none=>simp[a]at h
 |some x=>exact fH a
def lV(h:w'.heap[b]?=w.heap[b]?):ea w' b o=ea w b o:=by
 unfold ea World.cell?;rw[h]
def fW.cell(h:fW w w')(a:ea w b o=some v):ea w' b o=some v:=by
 rw[lV (h.aT b (kR a))];exact a
def fW.heap(h:fW w w'){x:Obj}(a:w.heap[b]?=some x):w'.heap[b]?=some x:=by
 rw[h.aT b (fH a)];exact a
def db.ext(h:fW σ.w w'):db σ {σ with w:=w'} :=
 ⟨λb o v a c=>⟨h.cell a,c⟩,λi c a=>⟨⟨c,a⟩,rfl⟩,λi c a=>⟨⟨c,a⟩,rfl⟩,λi c a=>⟨⟨c,a⟩,rfl⟩,λi a=>a,
 λi e a d c a=>.inr ⟨e,d,c,a,ah9 _,λ_=>⟨rfl,rfl,λc T a=>⟨c,h.heap a,rfl⟩⟩⟩,λ_ h=>⟨_,h⟩⟩
def fN.fY{τ:Sg}(a:db σ τ){ob:Ob}(d:∀x,σ.w.heap[b]?=some x->τ.w.heap[b]?=some x)(h:fN σ b ob):fN τ b ob:=by
 cases ob with
 |box j=>obtain⟨i,T,f,g⟩:=h;exact⟨i,T,d _ f,g.mono a⟩
 |row t r s q=>obtain⟨j,o,T,p,n,g,i,k,l,f⟩:=h;exact⟨j,o,T,p,n,d _ g,i,k,l,λi m v d b=>⟨(f i m v d b).1.mono a,(f i m v d b).2⟩⟩
 |map n=>obtain⟨k,l,e,c,f,g,j,i⟩:=h;exact⟨k,l,e,c,d _ f,g,λi e u d b=>(j i e u d b).up λv d=>d.mono a,i⟩
 |iter x=>
  rcases h with⟨i,s,j,l,f,g⟩|⟨m,T,f,g⟩
  .exact .inl ⟨i,s,j,l,d _ f,g.imp (λh=>⟨h.1,h.2.mono a⟩) λh=>⟨h.1.mono a,h.2⟩⟩
  .exact .inr ⟨m,T,d _ f,g.mono a⟩
 |dead=>trivial
 |free=>trivial
def iH.ext{a:Nat->Nat->Prop}(hi:iH σ a)(h:fW σ.w w'):iH {σ with w:=w'} a:=
 ⟨λi a c=>(hi.obj i a c).fY (db.ext h) (λx a=>h.heap a),hi.inj,hi.own,hi.sep,λb o a=>ajH (hi.iW b o a) h.size⟩
def bF.ext(h:fW σ.w w'):bF σ {σ with w:=w'} :=
 ⟨h.os,h.output,h.tape,h.size,λb a _=>h.aT b a,λi a c d=>.inr ⟨a,c,d,rfl⟩⟩
def bU.ext{MH:Nat->Nat}{a:Act}(hi:bU X σ MH st a)(h:fW σ.w w'):
  bU X {σ with w:=w'} MH st a:=
 ⟨hi.hH,hi.defers,hi.size,λt v b=>let⟨u,c,d⟩:=hi.slot t v b;⟨u,c,d.mono (db.ext h)⟩,
 λt c b=>(hi.box t c b).fY (db.ext h) (λx b=>h.heap b),hi.og,hi.oR,hi.oS,hi.hinv.ext h,
 hi.mono.trans (db.ext h),hi.aT.trans (bF.ext h)⟩
def cD.grow{o:Oper}{v:V}(h:∀c a d,bU X a d st c->∃u b,(execOp c.eval o).run X.P a.w=.ok (.value u) b/\fW a.w b/\RV {a with w:=b} d v u):
  cD X o st (dq v st):=by
 intro d a b c;obtain⟨u,e,f,g,i⟩:=h d a b c;exact dy.value f ⟨v,st,{a with w:=e},b,⟨rfl,rfl⟩,rfl,c.ext g,i⟩
def Fh(O:Nat->Nat->Prop)(w:World)(ds:List D)(a:Array Value):Prop:=
 a.size=ds.length/\∀(i:Nat) (d:D) (v:Value),ds[i]?=some d->a[i]?=some v->gO O w d v
def Ky(O:Nat->Nat->Prop)(w:World)(ds:List D)(a:Array Value):Prop:=
 a.size=ds.length/\∀(i:Nat) (d:D) (v:Value),ds[i]?=some d->a[i]?=some v->gO O w d v/\flat v=true
def gO.cells(h:gO O w d v):Ky O w (bz d) v.cells:=by
 cases h with
 |agg c e a b h=>exact⟨a,λi d v c a=>⟨h i d v c a,b i v a⟩⟩
 |_=>
  refine⟨W,λi c e a b=>?_⟩;cases i with
  |zero=>simp[bz,Value.cells]at a b;subst a;subst b;exact⟨by constructor<;>assumption,rfl⟩
  |succ i=>simp[bz]at a
def M.tK:M->Bool
 |.undef=>false
 |.c_ _=>false
 |_=>true
variable{m:M}
def RM.cells(h:RM σ m v)(e:m.tK=true):jy σ (cellsOf m) v.cells:=by
 have a:∀(m:M) (v:Value),RM σ m v->flat v=true->jy σ [m] #[v]:=by
  intro m v h g;refine⟨W,λi j k c f=>?_⟩;cases i with
  |zero=>simp at c f;subst c;subst f;exact⟨h,g⟩
  |succ i=>simp at c
 cases h with
 |d h=>
  have c:=h.cells;refine⟨by simp[cellsOf,c.1],λi m v f g=>?_⟩;simp only[cellsOf,aiZ,aiE]at f;obtain⟨d,j,rfl⟩:=f;exact⟨.d (c.2 i d v j g).1,(c.2 i d v j g).2⟩
 |agg g i f c h=>exact⟨f,λi d v e a=>⟨h i d v e a,c i v a⟩⟩
 |ref i f c h=>exact a _ _ (.ref i f c h) W
 |bZ i j k c l f g=>exact a _ _ (.bZ i j k c l f g) W
 |cz i g j b c f=>exact a _ _ (.cz i g j b c f) W
 |mp i c h=>exact a _ _ (.mp i c h) W
 |it i x h=>exact a _ _ (.it i x h) W
 |fn f c g j i h=>exact a _ _ (.fn f c g j i h) W
 |xe f g c i k j h=>exact a _ _ (.xe f g c i k j h) W
 |c_ c f g h=>simp[M.tK]at e
 |undef v=>simp[M.tK]at e
def xK(w:World)(arr:Array Value)(T:Nat)(a:Nat×Nat)(i:Nat):ea {w with heap:=w.heap.push (.cells arr T a)} w.heap.size i=arr[i]?:=by
 simp[ea,World.cell?]
def gO.Jy{arr:Array Value}{T:Nat}(c:∀b o,O b o->b<w.heap.size)(h:Ky O w ds arr):
  gO O {w with heap:=w.heap.push (.cells arr T (0,0))} (.bM ds 0) (.pointer (some ⟨w.heap.size,0,none⟩)):=by
 refine gO.bM ds 0 w.heap.size 0 (λi=>arr.getD i undef) ?_ ?_ ?_
 .intro i a;refine⟨?_,λa=>by have:=c _ _ a;omega⟩;rw[ai8,xK];have:i<arr.size:=by rw[h.1];exact a
  simp[this]
 .intro i a;have e:i<arr.size:=by rw[h.1];exact a
  have f:arr[i]?=some (arr.getD i undef):=by simp[e]
  exact(h.2 i ds[i] _ (by simp[a]) f).2
 .intro i d a;have e:i<arr.size:=by rw[h.1];rcases ais i ds.length with h|h;exact h;simp[ail h]at a
  have:=(h.2 i d (arr.getD i undef) a (by simp[e])).1;exact this.mono λb o v c a=>⟨(fW.alloc w _).cell c,a⟩
section ops
variable{X:cQ}{st:St}{dst:Option Nat}{ty:Nat}{pos:String}{af:Array Edge}{g:Option (Nat×Bool)}
def Fi(b:st.ev x=some (.m (.d d))):
  cD X ⟨dst,.box t x,ty,pos,af,g⟩ st (dq (.m (.d (.bM (bz d) 0))) st):=by
 refine cD.grow λc e f a=>?_
 have h:=(a.mN b).cells;exact⟨_,_,by simp[execOp,Instr.box,newVar,newRow,newObj,Sem.run];rfl,fW.alloc _ _,.m (.d (gO.Jy a.hinv.Fe h))⟩
class dz(P:Program)(t:Nat)(n:outParam Nat):Prop where
 agg:sH P t=some true
 size:iJ P t=some n
class bQ(P:Program)(t:Nat)(n:outParam Nat):Prop where
 size:iJ P t=some n
class fk(P:Program)(t:Nat)(z:outParam D):Prop where
 zero:pu P t=some z
class cI(P:Program)(t:Nat):Prop where
 cell:sH P t=some false
def cI.run(h:cI P t)(w:World):(isAgg t).run P w=.ok false w:=by
 have:=h.cell;unfold sH at this;unfold isAgg underlying;simp[program,Sem.run];cases a:P.underlying t with
 |none=>simp[a]at this
 |some d=>cases d<;>simp_all
def dz.run(h:dz P t n)(w:World):(isAgg t).run P w=.ok true w:=by
 have:=h.agg;unfold sH at this;unfold isAgg underlying;simp[program,Sem.run];cases a:P.underlying t with
 |none=>simp[a]at this
 |some d=>cases d<;>simp_all
def du(h:iJ P t=some n)(w:World):(sizeOf t).run P w=.ok n w:=by
 unfold iJ at h;unfold sizeOf typeInfo;simp[program,Sem.run];cases a:P.info? t with
 |none=>simp[a]at h
 |some d=>simp[a]at h;simp[h]
def kx(b o n:Nat):(⟨b,o,none⟩:Addr).add n=⟨b,o+n,none⟩:=by
 unfold Addr.add;split
 .rename_i h;subst h;rfl
 .rfl
def xL(h:ea w b o=some v):(load ⟨b,o,none⟩).run P w=.ok v w:=by
 unfold ea at h;simp[h]
def jC{a:Array Value} :∀(n i:Nat) (acc:Array Value),i+n=a.size->acc=a.extract 0 i->
  (∀j,j<a.size->ea w b (o+j)=some (a.getD j undef))->(loadCellsFrom ⟨b,o,none⟩ i n acc).run P w=.ok a w
 |0,i,acc,d,c,_=>by
  have:i=a.size:=by omega
  subst this;simp[loadCellsFrom,c]
 |n+1,i,acc,m,e,c=>by
  have d:i<a.size:=by omega
  rw[loadCellsFrom];simp only[kx,Sem.run_bind,xL (c i d),Result.andThen_ok];refine jC n (i+1) _ (by omega) ?_ c;rw[e];apply aka;intro k;simp[ajD,ajl];have:i<=a.size:=by omega
  rcases Nat.lt_trichotomy k i with h|h|h
  .have f:k<min i a.size:=by omega
   have g:¬k=min i a.size:=by omega
   have l:k<min (i+1) a.size:=by omega
   simp[g,f,l]
  .subst h;simp[ajw this,d];omega
  .have f:¬k=min i a.size:=by omega
   have g:¬k<min (i+1) a.size:=by omega
   have l:¬k<min i a.size:=by omega
   simp[f,g,l]
def jV{α:Type}(l:List α)(off n i:Nat)(hi:i<n):((l.drop off).take n)[i]?=l[off+i]?:=by
 rw[aj9 hi,ajy]
def xM{c:Nat->Value}(e:qo P t cs off=some d)
  (k:∀i,i<cs.length->ea w b (o+i)=some (c i)/\¬O b (o+i)) (r:∀i,i<cs.length->flat (c i)=true) (l:∀i d,cs[i]?=some d->gO O w d (c i)):
  ∃u,(Instr.loadAt t (.pointer (some ⟨b,o+off,none⟩))).run P w=.ok u w/\gO O w d u:=by
 unfold qo at e;split at e
 .rename_i n s m;cases f:Nat.ble (off+n) cs.length with
  |false=>simp[f]at e
  |true=>
   simp only[f,aiP,ai5]at e;subst e;have z:off+n<=cs.length:=aiy f;have x:dz P t n:=⟨s,m⟩
   let a:Array Value:=((List.range n).map λi=>c (off+i)).toArray
   have p:a.size=n:=by simp[a]
   have y:(loadCellsFrom ⟨b,o+off,none⟩ 0 n #[]).run P w=.ok a w:=by
    refine jC n 0 _ (by omega) (by simp) ?_;intro j g;rw[p]at g;have:a.getD j undef=c (off+j):=by simp[a,g]
    rw[this,ajG];exact(k (off+j) (by omega)).1
   refine⟨.agg a,?_,.agg _ a ?_ ?_ ?_⟩
   .simp[Instr.loadAt,Instr.sureAddr,loadVar,x.run,du m,loadCells,y]
   .simp[p];omega
   .intro i v g;have j:i<n:=by
     rcases ais i n with h|h
     .exact h
     .simp[aiG (show a.size<=i by omega)]at g
    have:v=c (off+i):=by simp[a,j]at g;exact g.symm
    subst this;exact r _ (by omega)
   .intro i d v q g;have j:i<n:=by
     rcases ais i n with h|h
     .exact h
     .simp[aiG (show a.size<=i by omega)]at g
    rw[jV cs off n i j]at q;have:v=c (off+i):=by simp[a,j]at g;exact g.symm
    subst this;exact l _ _ q
 .rename_i a;have f:cI P t:=⟨a⟩;have g:off<cs.length:=by
   rcases ais off cs.length with h|h
   .exact h
   .simp[ail h]at e
  refine⟨c off,?_,l off d e⟩;have h:w.cell? ⟨b,o+off,none⟩=some (c off):=(k off g).1;simp[Instr.loadAt,Instr.sureAddr,loadVar,f.run,h]
 .cases e
def u9(c:st.ev x=some (.m (.d (.bM cs off))))(e:qo X.P t cs off=some d):
  cD X ⟨dst,.load t x,ty,pos,af,g⟩ st (dq (.m (.d d)) st):=by
 refine MN λa o q f=>?_
 have h:=f.mN c;generalize i:a.eval x=u at h;cases h with
 |bM cs off b p r j k l=>
  obtain⟨u,m,n⟩:=xM e j k l;exact⟨u,by simp[execOp,i,m],.m (.d n)⟩
def sM[ht:cI X.P t](a:st.ev x=some (.m (.d (.bM cs off))))(b:cs[off]?=some d):
  cD X ⟨dst,.load t x,ty,pos,af,g⟩ st (dq (.m (.d d)) st):=
 u9 a (by simp[qo,ht.cell,b])
def sN[ht:dz X.P t n](a:st.ev x=some (.m (.d (.bM cs 0))))(b:cs.length=n):
  cD X ⟨dst,.load t x,ty,pos,af,g⟩ st (dq (.m (.d (.agg cs))) st):=by
 refine u9 a ?_;subst b;simp only[qo,ht.agg,ht.size,ai8];have:Nat.ble cs.length cs.length=true:=aiF (ah9 _);simp[this]
def px[ht:dz X.P t n](a:st.ev x=some (.m (.d (.bM cs off))))(b:Nat.ble (off+n) cs.length=true)(c:(cs.drop off).take n=ds):
  cD X ⟨dst,.load t x,ty,pos,af,g⟩ st (dq (.m (.d (.agg ds))) st):=by
 refine u9 a ?_;simp[qo,ht.agg,ht.size,b,c]
class aL(P:Program)(s f:Nat)(off:outParam Nat):Prop where
 run:∀(b o:Nat) (w:World),(Instr.fieldAt s (.pointer (some ⟨b,o,none⟩)) f).run P w=.ok (.pointer (some ⟨b,o+off,none⟩)) w
def sO(P:Program)(s f off:Nat):Bool:=
 match P.underlying s with
 |some (.struct a)=>match a[f]? with
  |some a=>match iJ P a.type with
   |some n=>n !=0&&a.offset==off
   |none=>false
  |none=>false
 |_=>false
theorem aC(h:sO P s f off=true):aL P s f off:=by
 constructor;intro b o w;unfold sO at h;split at h
 .rename_i g a;split at h
  .rename_i e c;split at h
   .rename_i n d;simp at h;simp[Instr.fieldAt,underlying,program,Sem.run,a,c,Instr.sureAddr,fieldPlace,du d,h.1,kx,h.2]
   .cases h
  .cases h
 .cases h
def sP(c:st.ev x=some (.m (.d (.bM cs off))))[d:aL X.P s f o]:
  cD X ⟨dst,.fieldAddr s x f,ty,pos,af,g⟩ st (dq (.m (.d (.bM cs (off+o)))) st):=by
 refine MN λa p q e=>?_
 have h:=e.mN c;generalize i:a.eval x=u at h;cases h with
 |bM cs off b j n k l m=>
  refine⟨_,by simp only[execOp,i];simp[d.run];rfl,.m (.d ?_)⟩;rw[ajG];exact .bM cs (off+o) b j n k l m
def sQ(b:st.ev x=some (.loc t off))[c:aL X.P s f o]:
  cD X ⟨dst,.fieldAddr s x f,ty,pos,af,g⟩ st (dq (.loc t (off+o)) st):=by
 refine MN λa i j d=>?_
 have h:=d.ev b;generalize e:a.eval x=u at h;cases h with
 |loc t off=>exact⟨_,by simp only[execOp,e];simp[c.run],.loc t (off+o)⟩
def sR(b:st.ev x=some (.m (.ref i off)))[c:aL X.P s f o]:
  cD X ⟨dst,.fieldAddr s x f,ty,pos,af,g⟩ st (dq (.m (.ref i (off+o))) st):=by
 refine MN λa l n d=>?_
 have h:=d.ev b;generalize e:a.eval x=u at h;cases h with
 |m h=>cases h with
  |ref i off j k=>exact⟨_,by simp only[execOp,e];simp[c.run],.m (.ref i (off+o) j k)⟩
def sS{MF:Nat}(c:st.ev x=some (.m (.cz i MF off)))[d:aL X.P s f o]:
  cD X ⟨dst,.fieldAddr s x f,ty,pos,af,g⟩ st (dq (.m (.cz i MF (off+o))) st):=by
 refine MN λa n p e=>?_
 have h:=e.ev c;generalize j:a.eval x=u at h;cases h with
 |m h=>cases h with
  |cz i MF off b k l=>exact⟨_,by simp only[execOp,j];simp[d.run],.m (.cz i MF (off+o) b k l)⟩
def sT:V->Bool
 |.m (.d (.bM _ _))=>true
 |.m (.ref _ _)=>true
 |.m (.cz _ _ _)=>true
 |.loc _ _=>true
 |.m (.d (.fn _ _))=>true
 |.m (.fn _ _)=>true
 |_=>false
def py{v:V}(e:st.ev x=some v)(a:sT v=true):
  cD X ⟨dst,.nilCheck x,ty,pos,af,g⟩ st (dq v st):=by
 refine MN λc i j f=>?_
 have h:=f.ev e;refine⟨c.eval x,?_,h⟩;generalize b:c.eval x=u at h;cases h with
 |loc t k=>simp[execOp,b]
 |tl _ _ _ _ _ _ _ _=>simp[sT]at a
 |m h=>cases h with
  |d h=>cases h<;>simp[sT]at a<;>simp[execOp,b]
  |_=>first|(simp[sT]at a;done)|simp[execOp,b]
def mz:D->Option Nat
 |.sl a=>some a.length
 |.oD=>some 0
 |_=>none
class aU(P:Program)(t:Nat)(e:outParam Nat):Prop where
 u:P.underlying t=some (.slice e)
class Bn(P:Program)(t:Nat):Prop where
 u:P.underlying t=some .string
def xN(c:st.ev x=some (.m (.d d)))[ht:aU X.P t e](a:mz d=some n):
  cD X ⟨dst,.call ⟨.builtin .len,#[x],#[t]⟩,ty,pos,af,g⟩ st (dq (.m (.d (.int .i64 n))) st):=by
 refine MN λb j k f=>?_
 have h:=f.mN c;generalize i:b.eval x=u at h;refine⟨.int .i64 n,?_,.m (.d (.int _ _))⟩;cases h<;>simp[mz]at a<;>subst a<;>simp[execOp,resolve,invoke,builtin,Builtin.len_,underlying,program,Sem.run,ht.u,i,goInt]
def xO{rows:List (List D)}{r:List D}{k:IntKind}{i:Int}(p:st.ev x=some (.m (.d (.sl rows))))(q:st.ev y=some (.m (.d (.int k i))))
  [ht:aU X.P t e] [s:bQ X.P e n] (u:0<=i) (a:rows[i.toNat]?=some r) (v:r.length=n):
  cD X ⟨dst,.indexAddr t x y,ty,pos,af,g⟩ st (dq (.m (.d (.bM r 0))) st):=by
 refine MN λj K M l=>?_
 have h:=l.mN p;have w:=l.jU q;generalize z:j.eval x=L at h;have c:i.toNat<rows.length:=by
  rcases ais i.toNat rows.length with h|h
  .exact h
  .simp[ail h]at a
 cases h with
 |slnil j=>simp at c
 |sl rows b o Q f J N O P A B C E=>
  have F:r∈rows:=aiv a;have G:f=n:=by rw[<-A r F];exact v
  subst G;have H:i<(rows.length:Int):=by omega
  refine⟨.pointer (some ⟨b,o+i.toNat*f+0,none⟩),?_,.m (.d (.bM r 0 b (o+i.toNat*f) (λj=>J i.toNat j) ?_ ?_ ?_))⟩
  .simp[execOp,z,w,Instr.indexAt,asIntOf,underlying,program,Sem.run,ht.u,du s.size,u,H,kx]
  .intro m I;have:=B i.toNat m c (by omega);simpa [ajG] using this
  .intro m I;exact C i.toNat m c (by omega)
  .intro m d I;exact E i.toNat m r d a I
def u_{s:ByteArray}(b:st.ev x=some (.m (.d (.str s))))(c:st.ev y=some (.m (.d (.str u)))):
  cD X ⟨dst,.binOp .eql xt x y yt,ty,pos,af,g⟩ st (dq (.m (.d (.bool (decide (s=u))))) st):=by
 refine MN λd e f a=>?_
 exact⟨_,by simp only[execOp,a.pw b,a.pw c,eqGuard,binOp,Op.stringOp,qt];simp,.m (.d (.bool _))⟩
def Ad{s:ByteArray}(b:st.ev x=some (.m (.d (.str s))))(c:st.ev y=some (.m (.d (.str u)))):
  cD X ⟨dst,.binOp .neq xt x y yt,ty,pos,af,g⟩ st (dq (.m (.d (.bool (!decide (s=u))))) st):=by
 refine MN λd e f a=>?_
 exact⟨_,by simp only[execOp,a.pw b,a.pw c,eqGuard,binOp,Op.stringOp,qt];simp,.m (.d (.bool _))⟩
def xP{s:ByteArray}(b:st.ev x=some (.m (.d (.str s))))(c:st.ev y=some (.m (.d (.str u))))(a:s.size+u.size<=9223372036854775807):
  cD X ⟨dst,.binOp .add xt x y yt,ty,pos,af,g⟩ st (dq (.m (.d (.str (s++u)))) st):=by
 refine MN λd e f a=>?_
 have:¬((s.size+u.size:Nat):Int)>IntKind.i64.max:=by
  have:IntKind.i64.max=9223372036854775807:=by decide
  omega
 exact⟨_,by simp only[execOp,a.pw b,a.pw c,eqGuard,binOp,Op.stringOp];simp only[aid this];simp,.m (.d (.str _))⟩
def qu{a:List M}(f:st.ev x=some (.m (.c_ a)))(b:a[i]?=some m):
  cD X ⟨dst,.extract x i,ty,pos,af,g⟩ st (dq (.m m) st):=by
 refine MN λe o p j=>?_
 have h:=j.ev f;generalize k:e.eval x=u at h;cases h with
 |m h=>cases h with
  |c_ q c l n=>
   have d:i<c.size:=by
    rw[l];rcases ais i a.length with h|h;exact h;simp[ail h]at b
   exact⟨c[i],by simp[execOp,k,Instr.extract,d],.m (n i m _ b (by simp[d]))⟩
end ops
end Go.Mt
namespace Go.Mt
variable{σ:Sg}{X:cQ}{st:St}{P:Program}{f:Nat}{ds:List D}{cs ms:List M}{m:M}{MH:Nat->Nat}{a:Act}{post:M->Hp->Prop}{H:Hp}{vs:Array Value}{fn:Func}
def TC.cond{post:Exit->St->Prop}{c:Operand}{x y:Code}{b:Bool}(g:st.ev c=some (.m (.d (.bool b))))
  (ht:b=true->TC X x st post) (h:b=false->TC X y st post):TC X (.cond c x y) st post:=by
 rintro d w ⟨e,f,rfl,a⟩;refine wp_cond (a.xl g) ?_;cases b
 .exact h W d _ ⟨e,f,W,a⟩
 .exact ht W d _ ⟨e,f,W,a⟩
def mI:List M->M
 |[m]=>m
 |ms=>.c_ ms
def CT(P:Program)(f:Nat)(ms:List M)(H:Hp)(post:M->Hp->Prop):Prop:=
 ∀(a:Sg) (c:Nat->Nat->Prop) (b:Array Value),iH a c->a.H=H->n6 a ms b->Calls P f b a.w λe d=>∃v r b,e=.returned v/\b.w=d/\post r b.H/\iH b c/\RM b r v/\db a b/\bF a b
def PT(P:Program)(f:Nat)(ds:List D)(post:List D->Prop):Prop:=
 ∀(O:Nat->Nat->Prop) (w:World) (a:Array Value),(∀b o,O b o->b<w.heap.size)->Fh O w ds a->Calls P f a w λe a=>∃v r,e=.returned v/\post r/\fW w a/\RM ⟨a,O,λ_=>0,[]⟩ (mI (r.map .d)) v
def CT.mono{a:M->Hp->Prop}(h:CT P f ms H post)(g:∀r g,post r g->a r g):CT P f ms H a:=
 λa i j k l m=>(h a i j k l m).mono λe j ⟨v,r,i,a,b,c,d⟩=>⟨v,r,i,a,b,g _ _ c,d⟩
def RM.DN{τ:Sg}{v:Value}(h:RM σ (mI (ds.map .d)) v)(c:∀b o v,ea σ.w b o=some v->¬σ.O b o->ea τ.w b o=some v/\¬τ.O b o):
  RM τ (mI (ds.map .d)) v:=by
 match ds,h with
 |[],h=>cases h with
  |c_ e f a h=>exact .c_ _ _ a (by simp)
 |[x],h=>cases h with
  |d h=>exact .d (h.mono c)
 |j::k::l,h=>cases h with
  |c_ p q g n=>
   refine .c_ _ _ g λi m v e o=>?_
   have a:=n i m v e o;have f:((j::k::l).map M.d)[i]?=some m:=e;simp only[aiZ,aiE]at f;obtain⟨d,_,rfl⟩:=f;cases a with
   |d a=>exact .d (a.mono c)
def ML{post:List D->Prop}(h:CT P f (ds.map .d) [] λr _=>∃d,r=mI (d.map .d)/\post d):PT P f ds post:=by
 intro O w g l i
 let a:Sg:=⟨w,O,λ_=>0,[]⟩
 have y:iH a O:=⟨by simp[a],by simp[a],by simp[a],by simp[a],l⟩;have n:n6 a (ds.map .d) g:=by
  refine⟨by simp[i.1],λk m v j o=>?_⟩;simp only[aiZ,aiE]at j;obtain⟨d,p,rfl⟩:=j;exact .d (i.2 k d v p o)
 refine(h a O g y W n).mono ?_;rintro e A ⟨v,z,B,q,r,⟨d,s,t⟩,u,x,C,c⟩;subst s;subst r;refine⟨v,d,q,t,⟨c.os,c.output,c.tape,c.size,λb g=>c.aT b g (by simp[a])⟩,?_⟩;refine x.DN ?_;exactλb o v a c=>⟨a,λa=>c ((u.own b o).2 (.inl a))⟩
def mA(i:Nat):List M->List (Nat×V)
 |[]=>[]
 |m::r=>(i,.m m)::mA (i+1) r
def sU:∀(ms:List M) (i t:Nat) (v:V),get (mA i ms) t=some v->i<=t/\∃m,ms[t-i]?=some m/\v=.m m
 |[],i,t,v,h=>by simp[mA,get]at h
 |m::r,i,t,v,h=>by
  simp only[mA,bP]at h;by_cases e:i=t
  .subst e;simp at h;subst h;exact⟨ah9 _,m,by simp,rfl⟩
  .rw[aid e]at h;obtain⟨d,a,b,c⟩:=sU r (i+1) t v h;refine⟨by omega,a,?_,c⟩;have:t-i=(t-(i+1))+1:=by omega
   rw[this];simpa using b
def xm(P:Program)(st:St):ResultVar->Option M
 |.tmp t=>match get st.sl t with
  |some (.m m)=>some m
  |_=>none
 |.cell t T=>match get st.sl t with
  |some (.loc u a)=>match get st.bx u with
   |some cs=>dX P T cs a
   |none=>none
  |some (.m (.d (.bM cs a)))=>(qo P T cs a).map .d
  |some (.m (.ref i a))=>match st.H[i]? with
   |some (.box cs)=>dX P T cs a
   |_=>none
  |_=>none
def oh(P:Program)(st:St):List ResultVar->Option (List M)
 |[]=>some []
 |r::a=>match xm P st r,oh P st a with
  |some m,some ms=>some (m::ms)
  |_,_=>none
def tM(P:Program)(fn:Func)(st:St):Option M:=(oh P st fn.results.toList).map mI
def sV:∀{cs:List M} {ds:List D},gg cs=some ds->cs=ds.map .d
 |[],ds,h=>by simp[gg]at h;subst h;rfl
 |m::r,ds,h=>by
  cases m<;>simp only[gg]at h<;>try (cases h;done)
  rename_i x;cases a:gg r with
  |none=>simp[a]at h
  |some b=>simp[a]at h;subst h;simp[sV a]
def n6.gg(h:n6 σ cs vs)(a:gg cs=some ds):Fh σ.O σ.w ds vs:=by
 have:=sV a;subst this;refine⟨by simpa using h.1,λi d v b c=>?_⟩;have:=h.2 i (.d d) v (by simp[b]) c;cases this with
 |d h=>exact h
def jy.flat(h:jy σ cs vs):∀(i:Nat) (v:Value),vs[i]?=some v->flat v=true:=by
 intro i v a;have b:i<cs.length:=by
  rw[<-h.1];rcases ais i vs.size with h|h;exact h;simp[aiG h]at a
 exact(h.2 i cs[i] v (by simp[b]) a).2
def nz{t b off:Nat}{arr:Array Value}{T:Nat}{l:Nat×Nat}(a:dX P t cs off=some m)
  (o:σ.w.heap[b]?=some (.cells arr T l)) (w:cs.length<=arr.size) (h:∀(i:Nat) (m:M) (v:Value),cs[i]?=some m->arr[i]?=some v->RM σ m v/\flat v=true):
  ∃u,(loadVar t ⟨b,off,none⟩).run P σ.w=.ok u σ.w/\RM σ m u:=by
 have f:∀i,i<arr.size->ea σ.w b i=some (arr.getD i undef):=by
  intro i c;simp[ea,World.cell?,o,c]
 unfold dX at a;split at a
 .rename_i n q g;cases e:Nat.ble (off+n) cs.length with
  |false=>simp[e]at a
  |true=>
   simp only[e,aiP,ai5]at a;subst a;have x:off+n<=cs.length:=aiy e;have r:dz P t n:=⟨q,g⟩;have k:(arr.extract off (off+n)).size=n:=by simp;omega
   have s:(loadCellsFrom ⟨b,off,none⟩ 0 n #[]).run P σ.w=.ok (arr.extract off (off+n)) σ.w:=by
    refine jC n 0 _ (by omega) (by simp) ?_;intro j d;rw[k]at d;rw[f _ (by omega)];have i:j<min (off+n) arr.size-off:=by omega
    have:off+j<arr.size:=by omega
    simp[i,this]
   have c:jy σ ((cs.drop off).take n) (arr.extract off (off+n)):=by
    refine⟨by rw[k];simp;omega,λi m v j d=>?_⟩;have p:i<n:=by
     rcases ais i n with h|h
     .exact h
     .rw[aiG (by omega)]at d;cases d
    rw[jV cs off n i p]at j;refine h _ _ _ j ?_;rw[ajl]at d;split at d
    .exact d
    .cases d
   refine⟨.agg (arr.extract off (off+n)),by simp[loadVar,r.run,du g,loadCells,s],?_⟩;unfold pack;split
   .rename_i d i;have j:=c;have:=n6.gg ⟨c.1,λi m v a b=>(c.2 i m v a b).1⟩ i;exact .d (.agg d _ this.1 (c.flat) this.2)
   .exact .agg _ _ c.1 c.flat (λi m v a b=>(c.2 i m v a b).1)
 .rename_i c;have d:cI P t:=⟨c⟩;have g:off<cs.length:=by
   rcases ais off cs.length with h|h
   .exact h
   .simp[ail h]at a
  have e:σ.w.cell? ⟨b,off,none⟩=some (arr.getD off undef):=f off (by omega);refine⟨arr.getD off undef,by simp[loadVar,d.run,e],(h off m _ a (by simp[show off<arr.size by omega])).1⟩
 .cases a
def pz(tmps:Array Value):ResultVar->Sem Value
 |.tmp t=>pure (tmps.getD t undef)
 |.cell a t=>do loadVar t (<-asAddr (tmps.getD a undef))
def Cc(hi:bU X σ MH st a){r:ResultVar}(h:xm X.P st r=some m):
  ∃u,(pz a.tmps r).run X.P σ.w=.ok u σ.w/\RM σ m u:=by
 unfold xm at h;split at h
 .rename_i t;split at h
  .rename_i g e;injection h with h;subst h
   obtain⟨u,f,c⟩:=hi.slot t _ e;cases c with
   |m c=>exact⟨u,by simp[pz,f],c⟩
  .cases h
 .rename_i t T;split at h
  .rename_i u o e;split at h
   .rename_i i j;obtain⟨x,f,g⟩:=hi.slot t _ e;cases g with
    |loc u o=>
     obtain⟨q,p,k,c⟩:=hi.box u i j;obtain⟨v,l,n⟩:=nz h k (by rw[c.1];exact ah9 _) c.2;exact⟨v,by simp[pz,f,asAddr,l],n⟩
   .cases h
  .rename_i f i j;obtain⟨x,k,c⟩:=hi.slot t _ j;cases c with
   |m c=>cases c with
    |d c=>cases c with
     |bM f i b q s n o p=>
      cases e:qo X.P T f i with
      |none=>simp[e]at h
      |some d=>
       simp[e]at h;subst h;obtain⟨v,g,l⟩:=xM e n o p;refine⟨v,?_,.d l⟩;simp only[Instr.loadAt,Instr.sureAddr]at g;simpa [pz,k,asAddr] using g
  .rename_i i p f;split at h
   .rename_i j o;obtain⟨x,g,c⟩:=hi.slot t _ f;cases c with
    |m c=>cases c with
     |ref i p s w=>
      obtain⟨y,q,k,e⟩:=hi.hinv.obj i (.box j) (by rw[hi.hH];exact o);obtain⟨v,l,n⟩:=nz h k (by rw[e.1];exact ah9 _) e.2;exact⟨v,by simp[pz,g,asAddr,l],n⟩
   .cases h
  .cases h
def wk(hi:bU X σ MH st a):∀{rs:List ResultVar} {ms:List M},oh X.P st rs=some ms->
  ∃us:List Value,(rs.mapM (pz a.tmps)).run X.P σ.w=.ok us σ.w/\n6 σ ms us.toArray
 |[],ms,h=>by simp[oh]at h;subst h;exact⟨[],by simp,rfl,by simp⟩
 |r::rs,ms,h=>by
  simp only[oh]at h;split at h
  .rename_i m n e f;injection h with h;subst h
   obtain⟨u,g,j⟩:=Cc hi e;obtain⟨us,k,d⟩:=wk hi f;refine⟨u::us,?_,?_⟩
   .rw[akB];simp only[Sem.run_bind,Sem.run_pure];rw[g];simp only[Result.andThen_ok];rw[k];simp
   .refine⟨by simpa using d.1,λi l v b c=>?_⟩;cases i with
    |zero=>simp at b c;subst b;subst c;exact j
    |succ i=>simp at b c;exact d.2 i l v b (by simpa using c)
  .cases h
def va(hi:bU X σ MH st a)(h:tM X.P fn st=some m):
  ∃u,(results fn a.tmps).run X.P σ.w=.ok u σ.w/\RM σ m u:=by
 unfold tM at h;cases d:oh X.P st fn.results.toList with
 |none=>simp[d]at h
 |some e=>
  simp[d]at h;subst h;obtain⟨c,g,b⟩:=wk hi d;have k:c.length=e.length:=by simpa using b.1
  have i:(results fn a.tmps).run X.P σ.w=.ok (if h:c.toArray.size=1 then c.toArray[0]else .tuple c.toArray) σ.w:=by
   have j:results fn a.tmps=(do let f<-fn.results.mapM (pz a.tmps);pure (if h:f.size=1 then f[0]else .tuple f)):=by
    unfold results
    congr 1
   rw[j,akF];simp only[Sem.run_bind,Functor.map];simp only[Sem.run_bind'];rw[g];simp
  rw[i]
  match e,c,b,k with
  |[],[],b,_=>exact⟨_,W,by rw[dif_neg (by simp)];exact .c_ [] #[] W (by simp)⟩
  |[m],[u],b,_=>exact⟨_,W,by simp[mI];exact b.2 0 m u (by simp) (by simp)⟩
  |f::j::e,l::n::c,b,_=>
   refine⟨_,W,?_⟩;rw[dif_neg (by simp)];exact .c_ _ _ b.1 b.2
def qv(P:Program)(fn:Func)(post:M->Hp->Prop):Exit->St->Prop
 |.normal,s=>∃m,tM P fn s=some m/\post m s.H
 |.ret,s=>∃m,tM P fn s=some m/\post m s.H
 |_,_=>False
def My{c:Code}(z:P.funcs[f]?=some fn)(A:fn.body=some c)
  {n:Nat} (B:fn.ntmps=n) (s:Nat.ble ms.length n=true) (h:∀(a:Sg) (d:Nat->Nat->Prop),TC ⟨P,n,a,d,[]⟩ c ⟨mA 0 ms,[],H⟩ (qv P fn post)):CT P f ms H post:=by
 subst B;replace s:=aiy s;intro g i l k C o;refine calls_of_wp z A ?_
 let X:cQ:=⟨P,fn.ntmps,g,i,[]⟩
 have L:∀b o,mx i (λ_=>0) [] b o↔i b o:=by intro b y;simp[mx,get]
 have D:bU X g (λ_=>0) ⟨mA 0 ms,[],H⟩ {tmps:=l++Array.replicate (fn.ntmps-l.size) undef,defers:=[]} :=by
  refine⟨C,W,?_,?_,by simp[get],by simp[get],by simp[get],by simp[get],?_,db.refl _,bF.refl _⟩
  .have:=o.1;simp[X];omega
  .intro t v u;obtain⟨_,m,j,rfl⟩:=sU ms 0 t v u;simp at j;have r:t<l.size:=by
    rw[o.1];rcases ais t ms.length with h|h;exact h;simp[ail h]at j
   exact⟨l[t],by simp[akg,r],.m (o.2 t m _ j (by simp[r]))⟩
  .exact⟨k.obj,k.inj,λb o=>by rw[k.own];simp[mx,get,X],λi d g a o j=>k.sep i d g a o (by simpa [mx,get] using j),λb o a=>k.iW b o (by simpa [mx,get] using a)⟩
 have G:=h g i _ g.w ⟨g,λ_=>0,rfl,D⟩;refine wp_mono G ?_;rintro e w M ⟨p,q,d,N,rfl,a⟩;have x:(∃m,tM P fn p=some m/\post m p.H)->w.defers=[]/\∃v,(results fn w.tmps).run P d.w=.ok v d.w/\∃j r a,Ending.returned v=.returned j/\a.w=d.w/\post r a.H/\iH a i/\RM a r j/\db g a/\bF g a:=by
  rintro⟨m,E,t⟩;obtain⟨u,F,I⟩:=va a E;have r:db d {d with O:= λb o=>i b o\/∃(i:Nat) (a:Ob),d.H[i]?=some a/\d.l i=b/\a.ji o} :=by
   refine⟨λb y v J K=>⟨J,λj=>K ?_⟩,λi d a=>⟨⟨d,a⟩,rfl⟩,λi d a=>⟨⟨d,a⟩,rfl⟩,λi d a=>⟨⟨d,a⟩,rfl⟩,λi a=>a,λi i a g d a=>.inr ⟨i,g,d,a,ah9 _,λ_=>⟨rfl,rfl,λd T a=>⟨d,a,rfl⟩⟩⟩,λ_ h=>⟨_,h⟩⟩;rw[a.hinv.own];rcases j with j|j
   .exact .inl (.inl j)
   .exact .inr j
  refine⟨a.defers,u,F,u,m,{d with O:= λb o=>i b o\/∃(i:Nat) (a:Ob),d.H[i]?=some a/\d.l i=b/\a.ji o},rfl,rfl,by rw[show d.H=p.H from a.hH];exact t,?_,?_,?_,?_⟩
  .exact⟨λi d g=>(a.hinv.obj i d g).fY r (λx a=>a),a.hinv.inj,λb o=>aj2,λi d g j o k=>a.hinv.sep i d g j o (.inl k),λb o d=>a.hinv.iW b o (.inl d)⟩
  .exact I.mono r
  .exact a.mono.trans r
  .exact⟨a.aT.os,a.aT.output,a.aT.tape,a.aT.size,a.aT.aT,a.aT.loc⟩
 cases e with
 |normal=>exact x q
 |ret=>exact x q
 |_=>exact q.elim
end Go.Mt
namespace Go.Mt
variable{f:Nat}{ds:List D}{args:List Operand}{OU:Array Nat}{σ:Sg}{post:List D->Prop}{MH:Nat->Nat}{a:Act}{o:Oper}{ms:List M}
def St.gu(st:St):List Operand->Option (List M)
 |[]=>some []
 |x::r=>match st.ev x,St.gu st r with
  |some (.m m),some ms=>some (m::ms)
  |_,_=>none
def St.gx(st:St):List Operand->Option (List D)
 |[]=>some []
 |x::r=>match st.ev x,St.gx st r with
  |some (.m (.d d)),some ds=>some (d::ds)
  |_,_=>none
section ops
variable{X:cQ}{st:St}{dst:Option Nat}{ty:Nat}{pos:String}{af:Array Edge}{g:Option (Nat×Bool)}
def bU.gu(hi:bU X σ MH st a):∀{xs:List Operand} {ms:List M},st.gu xs=some ms->n6 σ ms (xs.map a.eval).toArray
 |[],ms,h=>by simp[St.gu]at h;subst h;exact⟨W,by simp⟩
 |x::r,ms,h=>by
  simp only[St.gu]at h;split at h
  .rename_i m k e f;injection h with h;subst h
   have d:=hi.gu f;have g:=hi.ev e;refine⟨by simpa using d.1,λi j v b c=>?_⟩;cases i with
   |zero=>simp at b c;subst b;subst c;cases g with|m h=>exact h
   |succ i=>simp at b c;exact d.2 i j v b (by simpa using c)
  .cases h
def bU.gx(hi:bU X σ MH st a):∀{xs:List Operand} {ds:List D},st.gx xs=some ds->Fh σ.O σ.w ds (xs.map a.eval).toArray
 |[],b,h=>by simp[St.gx]at h;subst h;exact⟨W,by simp⟩
 |x::r,k,h=>by
  simp only[St.gx]at h;split at h
  .rename_i m l e f;injection h with h;subst h
   have d:=hi.gx f;have g:=hi.mN e;refine⟨by simpa using d.1,λi j v b c=>?_⟩;cases i with
   |zero=>simp at b c;subst b;subst c;exact g
   |succ i=>simp at b c;exact d.2 i j v b (by simpa using c)
  .cases h
class aW(P:Program)(f:Nat):Prop where
 run:∀(args:Array Value) (w:World),(callFunc f args).run P w=.ok (.enter f args) w
def Bo(st:St)(post:List D->Prop):V->St->Prop:= λv s=>∃r,v=.m (mI (r.map .d))/\post r/\s=st
def cD.HE(h:PT X.P f ds post)
  (i:∀c a d,bU X a d st c->∃d,(execOp c.eval o).run X.P a.w=.ok (.enter f d) a.w/\Fh a.O a.w ds d):cD X o st (Bo st post):=by
 intro g a d c;obtain⟨j,k,l⟩:=i g a d c;refine dy.enter k ((h a.O a.w j c.hinv.Fe l).mono ?_);rintro e m ⟨v,r,rfl,n,p,q⟩;refine⟨v,W,_,st,{a with w:=m},d,⟨r,rfl,n,rfl⟩,rfl,c.ext p,.m ?_⟩;exact q.DN λb o v a c=>⟨a,c⟩
def Cd[b:aW X.P f](c:st.gx args=some ds)(h:PT X.P f ds post):
  cD X ⟨dst,.call ⟨.value (.func f),args.toArray,OU⟩,ty,pos,af,g⟩ st (Bo st post):=by
 refine cD.HE h λa e i d=>⟨(args.map a.eval).toArray,?_,d.gx c⟩
 simp only[execOp,resolve,Act.eval,Deferred.ofValue,invoke];simp[b.run]
def Ae{r:D}[p:aW X.P f](d:st.gx args=some ds)(h:PT X.P f ds (·=[r])):
  cD X ⟨dst,.call ⟨.value (.func f),args.toArray,OU⟩,ty,pos,af,g⟩ st (dq (.m (.d r)) st):=by
 intro a b i j;have:=Cd (dst:=dst) (ty:=ty) (pos:=pos) (af:=af) (g:=g) (OU:=OU) d h a b i j;unfold dy at this⊢;generalize (execOp a.eval _).run X.P b.w=z at*;have c:∀v s,Bo st (·=[r]) v s->dq (.m (.d r)) st v s:=by
  rintro v s ⟨k,rfl,rfl,rfl⟩;exact⟨W,W⟩
 cases z with
 |ok x q=>
  cases x<;>simp only at this⊢ <;>first
   |(obtain⟨v,s,k,l,m,n⟩:=this;exact⟨v,s,k,l,c _ _ m,n⟩)
   |exact this.mono λe t ⟨u,o,v,s,k,l,m,n⟩=>⟨u,o,v,s,k,l,c _ _ m,n⟩
   |exact this
 |halt x k=>exact this
def Gh{x:Operand}{Nh:List D}(l:st.ev x=some (.m (.d (.fn f Nh))))[m:aW X.P f](n:st.gx args=some ds)
  (h:PT X.P f (ds++Nh) post):cD X ⟨dst,.call ⟨.value x,args.toArray,OU⟩,ty,pos,af,g⟩ st (Bo st post):=by
 refine cD.HE h λc w z j=>?_
 have k:=j.mN l;have e:=j.gx n;generalize o:c.eval x=y at k;cases k with
 |fn f A p q r=>
  refine⟨(args.map c.eval).toArray++p,?_,?_⟩
  .simp only[execOp,resolve,o,Deferred.ofValue,invoke];simp[m.run]
  .refine⟨by have:=e.1;simp at this;simp[this,q],λi d v a b=>?_⟩;have s:(args.map c.eval).toArray.size=ds.length:=e.1;rcases ais i ds.length with t|u
   .rw[aim t]at a;rw[aiH (by omega)]at b;exact e.2 i d v a b
   .rw[aix u]at a;rw[ai7 (by omega),s]at b;exact r _ d v a b
def tN{Nh:List Operand}(b:st.gx Nh=some ds):
  cD X ⟨dst,.makeFunc (.func f) #[] Nh.toArray,ty,pos,af,g⟩ st (dq (.m (.d (.fn f ds))) st):=by
 refine MN λa d e c=>?_
 have h:=c.gx b;exact⟨.func (.func f) #[] (Nh.map a.eval).toArray,by simp[execOp,Instr.makeFunc],.m (.d (.fn f ds _ h.1 h.2))⟩
def mO{a:Nat->Nat->Prop}(h:iH σ a){b:Nat}(c:a b 0):∀(i:Nat) ob,σ.H[i]?=some ob->ob.live->σ.l i≠b:=by
 intro i ob a d e;exact h.sep i ob a d 0 (by rw[e];exact c)
def cD.HF{post:M->Hp->Prop}(h:CT X.P f ms st.H post)
  (n:∀c a d,bU X a d st c->∃d,(execOp c.eval o).run X.P a.w=.ok (.enter f d) a.w/\n6 a ms d):
  cD X o st (λv s=>∃r H',v=.m r/\post r H'/\s=⟨st.sl,st.bx,H'⟩):=by
 intro m k c a;obtain⟨p,q,w⟩:=n m k c a;refine dy.enter q ((h k _ p a.hinv a.hH w).mono ?_);rintro e G ⟨v,r,d,rfl,rfl,x,y,z,g,l⟩;refine⟨v,W,.m r,⟨st.sl,st.bx,d.H⟩,d,c,⟨r,d.H,W,x,W⟩,W,?_,.m z⟩;refine⟨W,a.defers,a.size,λt v c=>let⟨u,A,B⟩:=a.slot t v c;⟨u,A,B.mono g⟩,?_,a.og,a.oR,a.oS,y,a.mono.trans g,a.aT.trans l⟩;intro t j i;have C:=(a.box t j i).lt trivial;have D:=mO a.hinv (b:=c t) (.inr ⟨t,j,i,rfl⟩);refine(a.box t j i).fY g λF E=>?_
 rw[l.aT _ C D];exact E
def vc{post:M->Hp->Prop}[b:aW X.P f](c:st.gu args=some ms)(h:CT X.P f ms st.H post):
  cD X ⟨dst,.call ⟨.value (.func f),args.toArray,OU⟩,ty,pos,af,g⟩ st (λv s=>∃r H',v=.m r/\post r H'/\s=⟨st.sl,st.bx,H'⟩):=by
 refine cD.HF h λa e i d=>⟨(args.map a.eval).toArray,?_,d.gu c⟩
 simp only[execOp,resolve,Act.eval,Deferred.ofValue,invoke];simp[b.run]
end ops
end Go.Mt
namespace Go.Mt
variable{b T off t o n:Nat}{w:World}{arr NB:Array Value}{cs MP:List M}{x:Obj}{v:Value}{P:Program}{σ:Sg}{m:M}
def cZ(w:World)(b:Nat)(x:Obj):World:={w with heap:=w.heap.setIfInBounds b x}
def fI(a:b<w.heap.size):(cZ w b x).heap[b]?=some x:=by simp[cZ,a]
def iC{c:Nat}(h:c≠b):(cZ w b x).heap[c]?=w.heap[c]?:=by
 simp[cZ,aiT (ajs h)]
def jb:(cZ w b x).heap.size=w.heap.size:=by simp[cZ]
def xQ{y:Obj} :cZ (cZ w b x) b y=cZ w b y:=by
 unfold cZ
 congr 1
 apply aka;intro i;by_cases h:i=b
 .subst h;simp[Array.getElem?_setIfInBounds]
 .simp[aiT (ajs h)]
def Bp(h:w.heap[b]?=some x):cZ w b x=w:=by
 unfold cZ;have:w.heap.setIfInBounds b x=w.heap:=by
  apply aka;intro i;by_cases e:i=b
  .subst e;rw[ake];split<;>simp_all
  .simp[aiT (ajs e)]
 rw[this]
def setCell_eq(h:w.heap[b]?=some (.cells arr T (0,0))):
  w.setCell ⟨b,o,none⟩ v=cZ w b (.cells (arr.setIfInBounds o v) T (0,0)):=by
 unfold World.setCell cZ
 congr 1
 apply aka;intro i;have a:=fH h;by_cases e:i=b
 .subst e;simp only[ajW,ajL,h,akt,ake,a];simp
 .simp[aiT (ajs e),ajW,ajs e]
def eF(arr:Array Value)(off:Nat):List Value->Array Value
 |[]=>arr
 |v::r=>eF (arr.setIfInBounds off v) (off+1) r
def gh:∀(a:List Value) (arr:Array Value) (off:Nat),(eF arr off a).size=arr.size
 |[],arr,off=>rfl
 |v::r,arr,off=>by simp[eF,gh r]
def lW:∀(a:List Value) (arr:Array Value) (off k:Nat),off+a.length<=arr.size->
  (eF arr off a)[k]?=if off<=k/\k<off+a.length then a[k-off]? else arr[k]?
 |[],arr,off,k,h=>by simp[eF];intro a b;omega
 |v::r,arr,off,k,h=>by
  simp at h;rw[eF,lW r _ (off+1) k (by simp;omega)];by_cases e:k=off
  .subst e;simp;have a:k<arr.size:=by omega
   simp[a];intro b;omega
  .by_cases a:off+1<=k/\k<off+1+r.length
   .have b:off<=k/\k<off+(v::r).length:=by simp;omega
    rw[air a,air b];have:k-off=(k-(off+1))+1:=by omega
    rw[this];simp
   .have b:¬(off<=k/\k<off+(v::r).length):=by simp;omega
    rw[aid a,aid b];simp[aiT (ajs e)]
def DO(h:w.heap[b]?=some (.cells arr T (0,0)))(a:o<arr.size)(c:flat v=true):
  (store ⟨b,o,none⟩ v).run P w=.ok () (cZ w b (.cells (arr.setIfInBounds o v) T (0,0))):=by
 have d:w.cell? ⟨b,o,none⟩=some arr[o]:=by simp[World.cell?,h,a]
 have e:w.frozen? ⟨b,o,none⟩=false:=by simp[World.frozen?,h]
 unfold store;cases v<;>simp[flat]at c<;>simp[Sem.run,d,e,setCell_eq h]
def mB{P:Program} :∀(a:List Value) (i:Nat) (w:World) (arr:Array Value),w.heap[b]?=some (.cells arr T (0,0))->off+i+a.length<=arr.size->(∀v∈a,flat v=true)->
  (storeCells ⟨b,off,none⟩ a i).run P w=.ok () (cZ w b (.cells (eF arr (off+i) a) T (0,0)))
 |[],i,w,arr,h,_,_=>by simp[storeCells,eF,Bp h]
 |v::r,i,w,arr,h,c,a=>by
  simp at c;have c:=DO (P:=P) (o:=off+i) h (by omega) (a v (by simp));rw[storeCells];simp only[Sem.run_bind,kx];rw[c];simp only[Result.andThen_ok];have c:(cZ w b (.cells (arr.setIfInBounds (off+i) v) T (0,0))).heap[b]?=some (.cells (arr.setIfInBounds (off+i) v) T (0,0)):=fI (fH h);rw[mB r (i+1) _ _ c (by simp;omega) (λv c=>a v (by simp[c]))];rw[xQ];rfl
def oE(h:w.heap[b]?=some (.cells arr T (0,0)))(a:iJ P t=some v.cells.size)(c:off+v.cells.size<=arr.size)
  (d:∀(i:Nat) u,v.cells[i]?=some u->flat u=true):
  (storeVar t ⟨b,off,none⟩ v).run P w=.ok () (cZ w b (.cells (eF arr off v.cells.toList) T (0,0))):=by
 unfold storeVar;simp only[Sem.run_bind,du a,Result.andThen_ok];simp;have:=mB (P:=P) (off:=off) v.cells.toList 0 w arr h (by simpa using c) (by
  intro u e;obtain⟨i,f⟩:=akh.1 e;exact d i u (by simpa using f))
 simpa using this
def jy.write{new:List M}{f:Array Value}(h:jy σ cs arr)(g:jy σ new f)(c:dH cs off new=some MP):
  jy σ MP (eF arr off f.toList)/\off+new.length<=cs.length/\MP.length=cs.length:=by
 unfold dH at c;cases d:Nat.ble (off+new.length) cs.length with
 |false=>simp[d]at c
 |true=>
  simp only[d,aiP,ai5]at c;subst c;have l:=aiy d;have n:=h.1;have k:=g.1;refine⟨⟨?_,?_⟩,l,?_⟩
  .rw[gh,h.1];simp;omega
  .intro i m v a b;rw[lW _ _ _ _ (by simp;omega)]at b;simp only[Array.length_toList,k]at b;by_cases e:off<=i/\i<off+new.length
   .rw[air e]at b;rw[ai0,aix (by simp;omega),aim (by simp;omega)]at a;have:i-(List.take off cs).length=i-off:=by simp;omega
    rw[this]at a;exact g.2 _ _ _ a (by simpa using b)
   .rw[aid e]at b;refine h.2 i m v ?_ b;rw[ai0]at a;rcases ais i off with j|j
    .rw[aim (by simp;omega),aj9 j]at a;exact a
    .rw[aix (by simp;omega),aix (by simp;omega),ajy]at a;have:off+new.length+(i-(List.take off cs).length-new.length)=i:=by simp;omega
     rw[this]at a;exact a
  .simp;omega
def db.cZ(h:σ.w.heap[b]?=some (.cells arr T (0,0)))(g:NB.size=arr.size)(j:∀o,¬σ.O b o->NB[o]?=arr[o]?):
  db σ {σ with w:=cZ σ.w b (.cells NB T (0,0))} :=by
 have d:=fH h;refine⟨?_,λi a d=>⟨⟨a,d⟩,rfl⟩,λi a d=>⟨⟨a,d⟩,rfl⟩,λi a d=>⟨⟨a,d⟩,rfl⟩,λi a=>a,?_,λ_ h=>⟨_,h⟩⟩
 .intro c o v a f;refine⟨?_,f⟩;by_cases e:c=b
  .subst e;simp only[ea,World.cell?,h]at a;simp only[ea,World.cell?,fI d];simp at a⊢;rw[j o f];exact a
  .rw[lV (iC e)];exact a
 .intro i p q l f k;refine .inr ⟨p,l,f,k,ah9 _,λ_=>⟨rfl,rfl,λm r a=>?_⟩⟩;by_cases e:σ.l i=b
  .rw[e]at a⊢;rw[h]at a;injection a with a;injection a with n o
   subst n;subst o;exact⟨NB,fI d,g⟩
  .exact⟨m,by rw[iC e];exact a,W⟩
section ops
variable{X:cQ}{st:St}{dst:Option Nat}{ty:Nat}{pos:String}{af:Array Edge}{g:Option (Nat×Bool)}
def rD{x:Operand}(d:st.ev x=some (.loc t off))(e:get st.bx t=some cs)(f:dX X.P T cs off=some m):
  cD X ⟨dst,.load T x,ty,pos,af,g⟩ st (dq (.m m) st):=by
 refine MN λc n o a=>?_
 have h:=a.ev d;generalize i:c.eval x=u at h;cases h with
 |loc t off=>
  obtain⟨q,p,j,b⟩:=a.box t cs e;obtain⟨v,k,l⟩:=nz f j (by rw[b.1];exact ah9 _) b.2;exact⟨v,by simp[execOp,i,Instr.loadAt,Instr.sureAddr,k],.m l⟩
def sW{x:Operand}[ht:cI X.P T](a:st.ev x=some (.loc t off))(b:get st.bx t=some cs)(c:cs[off]?=some m):
  cD X ⟨dst,.load T x,ty,pos,af,g⟩ st (dq (.m m) st):=
 rD a b (by simp[dX,ht.cell,c])
def sX{x:Operand}{ds:List D}[ht:dz X.P T n](a:st.ev x=some (.loc t off))(b:get st.bx t=some cs)(c:Nat.ble (off+n) cs.length=true)
  (d:gg ((cs.drop off).take n)=some ds):cD X ⟨dst,.load T x,ty,pos,af,g⟩ st (dq (.m (.d (.agg ds))) st):=
 rD a b (by simp[dX,ht.agg,ht.size,c,pack,d])
def bL{α:Type}{l:List (Nat×α)}{k:Nat}{v w:α}(h:get ((k,v)::l) t=some w):(t=k/\w=v)\/(t≠k/\get l t=some w):=by
 rw[bP]at h;by_cases e:k=t
 .rw[air e]at h;injection h with h;exact .inl ⟨e.symm,h.symm⟩
 .rw[aid e]at h;exact .inr ⟨λh=>e h.symm,h⟩
def bU.Jz{MH:Nat->Nat}{a:Act}(hi:bU X σ MH st a)(d:get st.bx t=some cs)(h:σ.w.heap[MH t]?=some (.cells arr T (0,0)))
  (p:NB.size=arr.size) (q:jy {σ with w:=cZ σ.w (MH t) (.cells NB T (0,0))} MP NB):
  bU X {σ with w:=cZ σ.w (MH t) (.cells NB T (0,0))} MH ⟨st.sl,(t,MP)::st.bx,st.H⟩ a:=by
 have r:∀o,σ.O (MH t) o:= λo=>(hi.hinv.own _ _).2 (.inl (.inr ⟨t,cs,d,rfl⟩))
 have f:db σ {σ with w:=cZ σ.w (MH t) (.cells NB T (0,0))} :=db.cZ h p (λo c=>(c (r o)).elim);have j:∀b o,mx X.jB MH ((t,MP)::st.bx) b o↔mx X.jB MH st.bx b o:=by
  intro b o;constructor
  .rintro(i|⟨u,m,i,l⟩)
   .exact .inl i
   .rcases bL i with⟨rfl,rfl⟩|⟨n,c⟩
    .exact .inr ⟨u,cs,d,l⟩
    .exact .inr ⟨u,m,c,l⟩
  .rintro(i|⟨u,m,i,l⟩)
   .exact .inl i
   .by_cases e:t=u
    .subst e;exact .inr ⟨t,MP,by simp[bP],l⟩
    .exact .inr ⟨u,m,by simp[bP,e,i],l⟩
 have s:=mO hi.hinv (b:=MH t) (.inr ⟨t,cs,d,rfl⟩);have g:∀u c,get ((t,MP)::st.bx) u=some c->∃c,get st.bx u=some c:=by
  intro u l i;rcases bL i with⟨rfl,rfl⟩|⟨m,c⟩
  .exact⟨cs,d⟩
  .exact⟨l,c⟩
 refine⟨hi.hH,hi.defers,hi.size,λu v d=>let⟨z,c,k⟩:=hi.slot u v d;⟨z,c,k.mono f⟩,?_,?_,?_,?_,?_,hi.mono.trans f,?_⟩
 .intro u i l;rcases bL l with⟨rfl,rfl⟩|⟨m,c⟩
  .exact⟨NB,T,fI (fH h),q⟩
  .refine(hi.box u i c).fY f λx n=>?_
   rw[iC (λe=>m (hi.og u t i cs c d e))];exact n
 .intro u v l x i m n;obtain⟨_,c⟩:=g u l i;obtain⟨_,k⟩:=g v x m;exact hi.og u v _ _ c k n
 .intro u l i;obtain⟨_,c⟩:=g u l i;exact hi.oR u _ c
 .intro u l i;obtain⟨_,c⟩:=g u l i;exact hi.oS u _ c
 .refine⟨?_,hi.hinv.inj,λb o=>by rw[j];exact hi.hinv.own b o,λi g c d o f=>hi.hinv.sep i g c d o ((j _ _).1 f),λb o c=>by show b<(cZ _ _ _).heap.size;rw[jb];exact hi.hinv.iW b o ((j _ _).1 c)⟩;intro l i m;by_cases n:i.live
  .refine(hi.hinv.obj l i m).fY f λx u=>?_
   rw[iC (s l i m n)];exact u
  .cases i<;>first|trivial|exact(n trivial).elim
 .refine⟨hi.aT.os,hi.aT.output,hi.aT.tape,by show _<=(cZ _ _ _).heap.size;rw[jb];exact hi.aT.size,?_,hi.aT.loc⟩;intro b i l;rw[iC ?_]
  .exact hi.aT.aT b i l
  .intro e;have:=hi.oS t cs d;omega
def xR{x y:Operand}(p:st.ev x=some (.loc t off))(q:st.ev y=some (.m m))(f:get st.bx t=some cs)
  [r:bQ X.P T n] (s:(cellsOf m).length=n) (u:m.tK=true) (v:dH cs off (cellsOf m)=some MP):
  cD X ⟨dst,.store T x y,ty,pos,af,g⟩ st (dq (.m .undef) ⟨st.sl,(t,MP)::st.bx,st.H⟩):=by
 intro c a d b;have j:=b.ev p;have h:=b.ev q;generalize z:c.eval x=G at j;cases j with
 |loc t off=>
  cases h with
  |m h=>
   obtain⟨o,k,i,l⟩:=b.box t cs f;have e:=h.cells u;have A:∀o,a.O (d t) o:= λo=>(b.hinv.own _ _).2 (.inl (.inr ⟨t,cs,f,rfl⟩))
   obtain⟨B,C,H⟩:=l.write e v;have D:(c.eval y).cells.size=n:=by rw[e.1,s]
   have E:=oE (P:=X.P) (t:=T) (off:=off) i (by rw[r.size,D]) (by rw[l.1,e.1];exact C) e.flat;refine dy.skip (by simp only[execOp,z,Instr.storeAt,Instr.sureAddr];simp[E];rfl) ?_;have F:db a {a with w:=cZ a.w (d t) (.cells (eF o off (c.eval y).cells.toList) k (0,0))} :=db.cZ i (gh _ _ _) (λo a=>(a (A o)).elim);exact⟨.m .undef,_,{a with w:=cZ a.w (d t) (.cells (eF o off (c.eval y).cells.toList) k (0,0))},d,⟨rfl,rfl⟩,rfl,b.Jz f i (gh _ _ _) (B.mono F),.m (.undef _)⟩
end ops
end Go.Mt
namespace Go.Mt
variable{d T:Nat}{z:D}
def gP(t:Nat):List (Nat×V)->Bool
 |[]=>true
 |(_,.loc u _)::r=> !Nat.beq u t&&gP t r
 |_::r=>gP t r
def xS:∀{l:List (Nat×V)} {t k o:Nat},gP t l=true->get l k≠some (.loc t o):=by
 intro l
 induction l with
 |nil=>intro t k o _ h;simp[get]at h
 |cons x l e=>
  intro t k o a h;obtain⟨j,u⟩:=x;cases u with
  |m m=>
   rcases bL h with⟨rfl,f⟩|⟨g,f⟩
   .cases f
   .exact e a f
  |tl g b c d=>
   rcases bL h with⟨rfl,f⟩|⟨i,f⟩
   .cases f
   .exact e a f
  |loc u n=>
   simp only[gP,aiI,ajp]at a;rcases bL h with⟨rfl,f⟩|⟨i,f⟩
   .injection f with g p;subst g;simp at a
   .exact e a.2 f
def cX(t:Nat):List (Nat×V)->List (Nat×V)
 |[]=>[]
 |(k,.loc u o)::r=>bif Nat.beq u t then(k,.m .undef)::cX t r else(k,.loc u o)::cX t r
 |(k,.m m)::r=>(k,.m m)::cX t r
 |(k,.tl a b c d)::r=>(k,.tl a b c d)::cX t r
def zK:∀{l:List (Nat×V)} {t k:Nat} {v:V},get (cX t l) k=some v->(v=.m .undef/\∃u,get l k=some u)\/(get l k=some v/\∀o,v≠.loc t o):=by
 intro l
 induction l with
 |nil=>intro t k v h;simp[cX,get]at h
 |cons x l a=>
  intro t k v h;obtain⟨p,u⟩:=x;cases u with
  |m m=>
   unfold cX at h;rcases bL h with⟨rfl,rfl⟩|⟨g,i⟩
   .exact .inr ⟨by simp[bP],λo f=>by cases f⟩
   .rw[bP,aid (λe=>g e.symm)];exact a i
  |tl j b c d=>
   unfold cX at h;rcases bL h with⟨rfl,rfl⟩|⟨g,i⟩
   .exact .inr ⟨by simp[bP],λo f=>by cases f⟩
   .rw[bP,aid (λe=>g e.symm)];exact a i
  |loc u o=>
   unfold cX at h;cases f:Nat.beq u t with
   |false=>
    rw[f]at h;rcases bL h with⟨rfl,rfl⟩|⟨i,j⟩
    .exact .inr ⟨by simp[bP],λq g=>by injection g with n r;subst n;simp at f⟩
    .rw[bP,aid (λe=>i e.symm)];exact a j
   |true=>
    rw[f]at h;rcases bL h with⟨rfl,rfl⟩|⟨g,i⟩
    .exact .inl ⟨W,.loc u o,by simp[bP]⟩
    .rw[bP,aid (λe=>g e.symm)];exact a i
section ops
variable{X:cQ}{st:St}{dst:Option Nat}{ty:Nat}{pos:String}{af:Array Edge}{g:Option (Nat×Bool)}
def bU.Fj{σ:Sg}{MH:Nat->Nat}{a:Act}{d T:Nat}{cs:List M}{arr:Array Value}(hi:bU X σ MH st a)(B:jy σ cs arr):
  ∃e f,e.w={σ.w with heap:=σ.w.heap.push (.cells arr T (0,0))} /\f d=σ.w.heap.size/\bU X e f ⟨cX d st.sl,(d,cs)::st.bx,st.H⟩ a:=by
 let b:=σ.w.heap.size
 let k:World:={σ.w with heap:=σ.w.heap.push (.cells arr T (0,0))}
 let e:Nat->Nat:= λu=>if u=d then b else MH u
 have l:fW σ.w k:=fW.alloc _ _
 let w:Nat->Nat->Prop:= λc o=>mx X.jB e ((d,cs)::st.bx) c o\/∃(i:Nat) (e:Ob),σ.H[i]?=some e/\σ.l i=c/\e.ji o
 let s:Sg:=⟨k,w,σ.l,σ.H⟩
 have t:∀u e,get st.bx u=some e->MH u<b:= λu h i=>(hi.box u h i).lt trivial
 have I:∀c o,c<b->w c o->σ.O c o:=by
  intro c o x i;rw[hi.hinv.own];rcases i with(i|⟨u,h,f,g⟩)|i
  .exact .inl (.inl i)
  .rcases bL f with⟨rfl,rfl⟩|⟨q,r⟩
   .simp[e]at g;omega
   .simp[e,q]at g;exact .inl (.inr ⟨u,h,r,g⟩)
  .exact .inr i
 have n:db σ s:=by
  refine⟨λc o v e f=>⟨l.cell e,λg=>f (I c o (kR e) g)⟩,λi cs e=>⟨⟨cs,e⟩,rfl⟩,λi cs e=>⟨⟨cs,e⟩,rfl⟩,λi cs e=>⟨⟨cs,e⟩,rfl⟩,λi e=>e,
   λi g e f cs e=>.inr ⟨g,f,cs,e,ah9 _,λ_=>⟨rfl,rfl,λarr T e=>⟨arr,l.heap e,rfl⟩⟩⟩,λ_ h=>⟨_,h⟩⟩
 have C:∀(i:Nat) e,σ.H[i]?=some e->e.live->σ.l i<b:= λj p f g=>(hi.hinv.obj j p f).lt g
 refine⟨s,e,W,by simp[e,b],?_⟩;refine⟨hi.hH,hi.defers,hi.size,?_,?_,?_,?_,?_,?_,hi.mono.trans n,?_⟩
 .intro r v i;rcases zK i with⟨rfl,u,f⟩|⟨f,g⟩
  .obtain⟨z,q,_⟩:=hi.slot r u f;exact⟨z,q,.m (.undef _)⟩
  .obtain⟨z,x,q⟩:=hi.slot r v f;refine⟨z,x,?_⟩;cases q with
   |m q=>exact .m (q.mono n)
   |tl j y A D E F G H=>exact RV.mono (MH:=e) n (.tl j y A D E F G H)
   |loc u o=>
    have y:u≠d:=by rintro rfl;exact g o W
    have:e u=MH u:=by simp[e,y]
    rw[<-this];exact .loc u o
 .intro u h f;rcases bL f with⟨rfl,rfl⟩|⟨q,r⟩
  .refine⟨arr,T,?_,B.mono n⟩;simp[e,s,k,b]
  .have:e u=MH u:=by simp[e,q]
   rw[this];exact(hi.box u h r).fY n λx e=>l.heap e
 .intro u v h x f g q;rcases bL f with⟨rfl,rfl⟩|⟨r,y⟩<;>rcases bL g with⟨rfl,rfl⟩|⟨z,A⟩
  .rfl
  .simp[e,z]at q;have:=t v x A;omega
  .simp[e,r]at q;have:=t u h y;omega
  .simp[e,r,z]at q;exact hi.og u v h x y A q
 .intro u h f o g;rcases bL f with⟨rfl,rfl⟩|⟨q,r⟩
  .simp[e]at g;have:=hi.hinv.iW _ _ (.inl g);simp[b]at this
  .simp[e,q]at g;exact hi.oR u h r o g
 .intro u h f;rcases bL f with⟨rfl,rfl⟩|⟨q,r⟩
  .simp[e];exact hi.aT.size
  .simp[e,q];exact hi.oS u h r
 .refine⟨λi e f=>(hi.hinv.obj i e f).fY n λx e=>l.heap e,hi.hinv.inj,λc o=>aj2,?_,?_⟩
  .intro j p f g o q;have z:=C j p f g;rcases q with q|⟨u,h,q,r⟩
   .exact hi.hinv.sep j p f g o (.inl q)
   .rcases bL q with⟨rfl,rfl⟩|⟨x,y⟩
    .simp[e]at r;change b=σ.l j at r;omega
    .simp[e,x]at r;exact hi.hinv.sep j p f g o (.inr ⟨u,h,y,r⟩)
  .intro c o q;have z:k.heap.size=b+1:=by simp[k,b]
   show c<k.heap.size;rcases q with q|⟨u,h,q,r⟩
   .have:=hi.hinv.iW c o (.inl q);omega
   .rcases bL q with⟨rfl,rfl⟩|⟨x,y⟩
    .simp[e]at r;omega
    .simp[e,x]at r;have:=t u h y;omega
 .refine hi.aT.trans ⟨W,W,W,l.size,λc e _=>l.aT c e,λi e f g=>.inr ⟨e,f,g,rfl⟩⟩
class xn(P:Program)(t:Nat)(z:outParam D):Prop where
 run:∃v,(∀w,(zeroValue t).run P w=.ok v w)/\pt v=some z
theorem ci{P:Program}{t:Nat}(h:pu P t=some z):xn P t z:=by
 unfold pu at h;split at h
 .rename_i i a;split at h
  .rename_i v b;exact⟨v,λw=>by simp[zeroValue,typeInfo,program,Sem.run,a,b],h⟩
  .cases h
 .cases h
def Af[b:xn X.P T z]:
  cD X ⟨some d,.alloc T,ty,pos,af,g⟩ st (dq (.loc d 0) ⟨cX d st.sl,(d,(bz z).map .d)::st.bx,st.H⟩):=by
 intro o a p c;obtain⟨v,e,f⟩:=b.run;have h:RM a (.d z) v:=.d (e9 f);have i:=h.cells W;obtain⟨j,k,l,m,n⟩:=c.Fj (d:=d) (T:=T) i;refine dy.value (u:=.pointer (some ⟨a.w.heap.size,0,none⟩)) (w':={a.w with heap:=a.w.heap.push (.cells v.cells T (0,0))}) ?_ ⟨.loc d 0,_,j,k,⟨rfl,rfl⟩,l,n,?_⟩
 .simp[execOp,Instr.alloc,e,newVar,newRow,newObj,Sem.run]
 .rw[<-m];exact .loc d 0
def HG{x:Operand}{m:M}(e:st.ev x=some (.m m))(f:m.tK=true):
  cD X ⟨some d,.box T x,ty,pos,af,g⟩ st (dq (.loc d 0) ⟨cX d st.sl,(d,cellsOf m)::st.bx,st.H⟩):=by
 intro c a p b;have h:=b.ev e;cases h with
 |m h=>
  have i:=h.cells f;obtain⟨j,k,l,n,o⟩:=b.Fj (d:=d) (T:=T) i;refine dy.value (u:=.pointer (some ⟨a.w.heap.size,0,none⟩)) (w':={a.w with heap:=a.w.heap.push (.cells (c.eval x).cells T (0,0))}) ?_ ⟨.loc d 0,_,j,k,⟨rfl,rfl⟩,l,o,?_⟩
  .simp[execOp,Instr.box,newVar,newRow,newObj,Sem.run]
  .rw[<-n];exact .loc d 0
end ops
end Go.Mt
namespace Go.Mt
variable{T n:Nat}{σ:Sg}{w:World}{parts:List (Nat×Operand)}{ms:List (Nat×M)}{cs:List M}{rows:List (List D)}
def mJ:∀(a:List Value) (k off:Nat) (arr:Array Value),
  (a.zipIdx k).foldl (λcs (x:Value×Nat)=>cs.setIfInBounds (off+x.2) x.1) arr=eF arr (off+k) a
 |[],k,off,arr=>rfl
 |v::r,k,off,arr=>by
  rw[List.zipIdx_cons,aii,mJ r (k+1) off];rfl
def gQ(a:Nat->Option (Nat×Nat))(cs:List M):List (Nat×M)->Option (List M)
 |[]=>some cs
 |(i,m)::r=>match a i with
  |some (b,c)=>bif (Nat.beq (cellsOf m).length c&&m.tK)then(match dH cs b (cellsOf m)with
   |some b=>gQ a b r
   |none=>none)else none
  |none=>none
def oT{o:Nat->Option (Nat×Nat)} :∀{parts:List (Nat×M)} {a:List (Nat×Value)} {cs MP:List M} {arr:Array Value},jy σ cs arr->
  parts.length=a.length->(∀(k:Nat) p q,parts[k]?=some p->a[k]?=some q->p.1=q.1/\RM σ p.2 q.2)->gQ o cs parts=some MP->
  ∃c,Instr.fill o arr a=some c/\jy σ MP c
 |[],[],cs,MP,arr,h,_,_,a=>by simp[gQ]at a;subst a;exact⟨arr,W,h⟩
 |p::C,q::D,cs,MP,arr,h,s,f,a=>by
  obtain⟨A,m⟩:=p;obtain⟨B,v⟩:=q;obtain⟨g,i⟩:=f 0 _ _ W W;simp at g i;subst g;unfold gQ at a;split at a
  .rename_i e n t;cases c:(Nat.beq (cellsOf m).length n&&m.tK)with
   |false=>simp[c]at a
   |true=>
    simp only[c,aiP]at a;simp only[aiI]at c;have u:=aiw c.1;split at a
    .rename_i E w;have d:=i.cells c.2;obtain⟨x,F,G⟩:=h.write d w;obtain⟨r,j,y⟩:=oT x (by simpa using s) (λk p q a b=>f (k+1) p q (by simpa using a) (by simpa using b)) a;refine⟨r,?_,y⟩;unfold Instr.fill;simp only[t];have l:v.cells.size=n:=by rw[d.1,u]
     have z:¬(e+v.cells.size>arr.size):=by rw[d.1,h.1];omega
     rw[aid (by simp[l];rw[l]at z;omega)];have:v.cells.zipIdx.foldl (λcs (x:Value×Nat)=>cs.setIfInBounds (e+x.2) x.1) arr=eF arr e v.cells.toList:=by
      rw[<-Array.foldl_toList,Array.toList_zipIdx,mJ];rfl
     rw[<-this]at j;exact j
    .cases a
  .cases a
 |[],_::_,_,_,_,_,a,_,_=>by simp at a
 |_::_,[],_,_,_,_,a,_,_=>by simp at a
def oU(P:Program)(t:Nat):Option (List (Nat×Nat)):=
 match P.underlying t with
 |some (.struct a)=>a.toList.mapM λf=>(iJ P f.type).map λn=>(f.offset,n)
 |_=>none
class cE(P:Program)(t:Nat)(places:outParam (List (Nat×Nat)))(z:outParam (List D)):Prop where
 places:oU P t=some places
 zero:pu P t=some (.agg z)
def tP{P:Program} :∀{a:List Field} {ps:List (Nat×Nat)},(a.mapM λf=>(iJ P f.type).map λn=>(f.offset,n))=some ps->
  (a.mapM λf=>(do pure (f.offset,<-sizeOf f.type):Sem (Nat×Nat))).run P w=.ok ps w
 |[],ps,h=>by simp at h;subst h;simp
 |f::c,ps,h=>by
  rw[akB]at h;cases a:iJ P f.type with
  |none=>simp[a]at h
  |some n=>
   simp only[a,akt,Option.bind_eq_bind,akN]at h;cases b:(c.mapM λf=>(iJ P f.type).map λn=>(f.offset,n))with
   |none=>simp[b]at h
   |some d=>
    simp[b]at h;subst h;rw[akB];simp only[Sem.run_bind,du a,Result.andThen_ok,Sem.run_pure,tP b]
def dI(st:St):List (Nat×Operand)->Option (List (Nat×M))
 |[]=>some []
 |(i,x)::r=>match st.ev x,dI st r with
  |some (.m m),some ms=>some ((i,m)::ms)
  |_,_=>none
section ops
variable{X:cQ}{st:St}{dst:Option Nat}{ty:Nat}{pos:String}{af:Array Edge}{g:Option (Nat×Bool)}
def bU.dI{MH:Nat->Nat}{a:Act}(hi:bU X σ MH st a):∀{xs:List (Nat×Operand)} {ms:List (Nat×M)},dI st xs=some ms->
  ms.length=(xs.map λp=>(p.1,a.eval p.2)).length/\∀(k:Nat) p q,ms[k]?=some p->(xs.map λp=>(p.1,a.eval p.2))[k]?=some q->p.1=q.1/\RM σ p.2 q.2
 |[],ms,h=>by simp[Mt.dI]at h;subst h;simp
 |(j,x)::r,ms,h=>by
  simp only[Mt.dI]at h;split at h
  .rename_i m l d e;injection h with h;subst h
   obtain⟨f,g⟩:=hi.dI e;have i:=hi.ev d;refine⟨by simpa using f,λk p q b c=>?_⟩;cases k with
   |zero=>simp at b c;subst b;subst c;cases i with|m h=>exact⟨W,h⟩
   |succ k=>simp at b;exact g k p q b (by simpa using c)
  .cases h
def mX{ps:List (Nat×Nat)}{z:List D}[ht:cE X.P T ps z](f:dI st parts=some ms)
  (h:gQ (λi=>ps[i]?) (z.map .d) ms=some cs):cD X ⟨dst,.build T parts.toArray,ty,pos,af,g⟩ st (dq (.m (pack cs)) st):=by
 refine MN λe c B j=>?_
 obtain⟨k,l⟩:=j.dI f;have n:∃v,(∀w,(zeroValue T).run X.P w=.ok v w)/\pt v=some (.agg z):=(ci ht.zero).run;obtain⟨v,o,p⟩:=n;have q:jy c (z.map .d) v.cells:=(RM.d (e9 p):RM c (.d (.agg z)) v).cells W;obtain⟨r,s,a⟩:=oT q k l h;refine⟨.agg r,?_,.m ?_⟩
 .have d:=ht.places;unfold oU at d;split at d
  .rename_i A t;have u:=tP (w:=c.w) d;have x:(A.mapM λf=>(do pure (f.offset,<-sizeOf f.type):Sem (Nat×Nat))).run X.P c.w=.ok ps.toArray c.w:=by
    rw[akF];simp only[Functor.map,Sem.run_bind'];rw[u];rfl
   simp only[execOp,Instr.build];simp only[Sem.run_bind,o,Result.andThen_ok,underlying,program,Sem.run,t,Sem.run_pure];simp only[x,Result.andThen_ok];have:(Array.map (λx:Nat×Operand=>match x with|(i,x)=>(i,e.eval x)) parts.toArray).toList=parts.map λp=>(p.1,e.eval p.2):=by simp
   simp only[this];have y:(λi:Nat=>ps.toArray[i]?)= λi:Nat=>ps[i]?:=by funext i;simp
   rw[y,s];simp
  .cases d
 .unfold pack;split
  .rename_i d i;have:=n6.gg ⟨a.1,λi m v c b=>(a.2 i m v c b).1⟩ i;exact .d (.agg d _ this.1 a.flat this.2)
  .exact .agg _ _ a.1 a.flat (λi m v c b=>(a.2 i m v c b).1)
def fQ(n len:Nat)(z:List D):List M:=(List.range (len*n)).map λi=>.d (z.getD (i%z.length) default)
def qw:∀{k:Nat} {cs:List M} {rows:List (List D)},chunk n k cs=some rows->cs.length=k*n->
  rows.length=k/\(∀r∈rows,r.length=n)/\∀(i j:Nat) r d,rows[i]?=some r->r[j]?=some d->cs[i*n+j]?=some (.d d)
 |0,[],rows,h,_=>by simp[chunk]at h;subst h;simp
 |0,_::_,rows,h,_=>by simp[chunk]at h
 |k+1,cs,rows,h,c=>by
  unfold chunk at h;split at h
  .rename_i r u l m;injection h with h;subst h
   have o:(cs.drop n).length=k*n:=by simp[c,ajt]
   obtain⟨p,q,s⟩:=qw m o;have f:=sV l;have g:r.length=n:=by
    have:=ajj List.length f;simp at this;rw[c,ajt]at this;omega
   refine⟨by simp[p],?_,?_⟩
   .intro x a;simp at a;rcases a with rfl|a
    .exact g
    .exact q x a
   .intro i j x d a b;cases i with
    |zero=>
     simp at a;subst a;have t:j<n:=by rw[<-g];rcases ais j r.length with h|h;exact h;simp[ail h]at b
     have:(cs.take n)[j]?=some (.d d):=by rw[f];simp[b]
     rw[aj9 t]at this;simpa using this
    |succ i=>
     simp at a;have:=s i j x d a b;rw[ajy]at this;have e:(i+1)*n+j=n+(i*n+j):=by rw[ajt];omega
     rw[e];exact this
  .cases h
def gO.KV{O:Nat->Nat->Prop}{k T:Nat}{arr:Array Value}(t:0<n)(l:∀b o,O b o->b<w.heap.size)(m:rows.length=k)(a:∀r∈rows,r.length=n)
  (o:arr.size=k*n) (p:k<=140737488355328) (h:∀(i j:Nat) r d v,rows[i]?=some r->r[j]?=some d->arr[i*n+j]?=some v->gO O w d v/\flat v=true):
  gO O {w with heap:=w.heap.push (.cells arr T (0,0))} (.sl rows) (.slice (some ⟨w.heap.size,0,none⟩) k k):=by
 subst m;by_cases f:rows=[]
 .subst f;exact .slnil _
 .have c:∀i j,i<rows.length->j<n->i*n+j<arr.size:=by
   intro i j e g;rw[o]
   calc i*n+j<i*n+n:=by omega
    _=(i+1)*n:=by rw[ajt]
    _<=rows.length*n:=aiB _ e
  refine .sl rows w.heap.size 0 rows.length n (λi j=>arr.getD (i*n+j) undef) f (ah9 _) p a ?_ ?_ ?_
  .intro i j e g;refine⟨?_,λa=>by have:=l _ _ a;omega⟩;rw[ai8,xK];simp[c i j e g]
  .intro i j e g;have q:rows[i].length=n:=a _ (aif e);exact(h i j rows[i] (rows[i])[j] _ (by simp[e]) (by simp[q,g]) (by simp[c i j e g])).2
  .intro i j r d e g;have q:i<rows.length:=by rcases ais i rows.length with h|h;exact h;simp[ail h]at e
   have s:j<n:=by
    rw[<-a r (aiv e)];rcases ais j r.length with h|h;exact h;simp[ail h]at g
   have:=(h i j r d (arr.getD (i*n+j) undef) e g (by simp[c i j q s])).1;exact this.mono λb o v a c=>⟨(fW.alloc w _).cell a,c⟩
def xT{e len:Nat}{z:D}[ht:aU X.P T e][l:bQ X.P e n][B:fk X.P e z]
  (C:Nat.blt 0 n=true) (o:(bz z).length=n) (U:Nat.ble (len*n) 16777216=true) (E:dI st parts=some ms)
  (q:gQ (λi=>some (i*n,n)) (fQ n len (bz z)) ms=some cs) (F:chunk n len cs=some rows):
  cD X ⟨dst,.buildSlice T len parts.toArray,ty,pos,af,g⟩ st (dq (.m (.d (.sl rows))) st):=by
 refine cD.grow λc a V r=>?_
 have j:=bj C;have Y:=aiy U;obtain⟨G,H⟩:=r.dI E;obtain⟨v,I,J⟩:=(ci B.zero).run;have s:jy a ((bz z).map .d) v.cells:=(RM.d (e9 J):RM a (.d z) v).cells W;have K:v.cells.size=n:=by rw[s.1];simpa using o
 have L:jy a (fQ n len (bz z)) ((Array.range (len*n)).map λi=>v.cells[i%v.cells.size]!):=by
  refine⟨by simp[fQ],λi m N p f=>?_⟩;have t:i<len*n:=by
   rcases ais i (len*n)with h|h
   .exact h
   .rw[aiG (by simpa using h)]at f;cases f
  have O:i%n<n:=aj1 _ j;have y:i%n<(bz z).length:=by omega
  simp[fQ,t,o]at p;simp[t,K]at f;have A:i%n<v.cells.size:=by omega
  subst p;subst f;refine s.2 (i%n) _ _ ?_ ?_
  .simp[aiM y]
  .simp[A]
 obtain⟨u,k,w⟩:=oT L G H q;have x:cs.length=len*n:=by
  have N:∀{c:List (Nat×M)} {a b:List M},gQ (λi=>some (i*n,n)) a c=some b->b.length=a.length:=by
   intro p
   induction p with
   |nil=>intro c b h;simp[gQ]at h;subst h;rfl
   |cons A p O=>
    intro c b h;obtain⟨y,m⟩:=A;unfold gQ at h;simp only at h;cases t:(Nat.beq (cellsOf m).length n&&m.tK)with
    |false=>simp[t]at h
    |true=>
     simp only[t,aiP]at h;split at h
     .rename_i Z f;rw[O h];unfold dH at f;cases i:Nat.ble (y*n+(cellsOf m).length) c.length with
      |false=>simp[i]at f
      |true=>
       simp only[i,aiP,ai5]at f;subst f;have:=aiy i;simp;omega
     .cases h
  rw[N q];simp[fQ]
 obtain⟨P,Q,R⟩:=qw F x;have S:u.size=len*n:=by rw[w.1,x]
 refine⟨.slice (some ⟨a.w.heap.size,0,none⟩) len len,{a.w with heap:=a.w.heap.push (.cells u e (0,0))},?_,fW.alloc _ _,.m (.d (gO.KV j r.hinv.Fe P Q S (by have:=akc len j;omega) ?_))⟩
 .have:(Array.map (λx:Nat×Operand=>match x with|(i,x)=>(i,c.eval x)) parts.toArray).toList=parts.map λp=>(p.1,c.eval p.2):=by simp
  have t:¬(len*n>2^24):=by omega
  by_cases f:len*n=0
  .have y:len=0:=by
    rcases aku.1 f with h|h
    .exact h
    .omega
   subst y;have h:((Array.range (0*n)).map λi=>v.cells[i%v.cells.size]!)= #[]:=by simp
   rw[h]at k;simp only[execOp,Instr.buildSlice,Sem.run_bind,underlying,program,Sem.run,ht.u,Sem.run_pure,Result.andThen_ok,du l.size,Sem.run_ite,f,ajL,this];have A:Array.range 0=(#[]:Array Nat):=by decide
   simp only[A,Array.map_empty];rw[k];simp[newRow,newObj,Sem.run]
  .simp only[execOp,Instr.buildSlice,Sem.run_bind,underlying,program,Sem.run,ht.u,Sem.run_pure,Result.andThen_ok,du l.size,Sem.run_ite,t,aju,f,I,this];rw[k];simp[newRow,newObj,Sem.run]
 .intro i p t d f A N y;have:=w.2 _ _ f (R i p t d A N) y;refine⟨?_,this.2⟩;cases this.1 with
  |d h=>exact h
end ops
end Go.Mt
namespace Go.Mt
variable{x y:Operand}{n t T f off xt yt e o s j i len:Nat}{cs MP zs:List M}{ds z:List D}{sl M8:List (Nat×V)}{v:V}{m:M}{bx Ns:List (Nat×List M)}{H:Hp}{args:List Operand}{OU:Array Nat}{ms:List (Nat×M)}{parts:List (Nat×Operand)}{ps:List (Nat×Nat)}{kk:IntKind}{r:D}{rows:List (List D)}{dst:Option Nat}{op:Op}{w b:Bool}{c:Code}{u:ByteArray}{st:St}{X:cQ}{post:Exit->St->Prop}
def wr:List M->Nat->List M->Option (List M)
 |cs,0,[]=>some cs
 |_::cs,0,n::a=>match wr cs 0 a with
  |some r=>some (n::r)
  |none=>none
 |c::cs,off+1,a=>match wr cs off a with
  |some r=>some (c::r)
  |none=>none
 |_,_,_=>none
def sY:∀{cs:List M} {off:Nat} {new MP:List M},wr cs off new=some MP->dH cs off new=some MP
 |cs,0,[],MP,h=>by
  simp[wr]at h;subst h;have:Nat.ble 0 cs.length=true:=aiF (aja _);simp[dH,this]
 |c::cs,0,n::new,MP,h=>by
  simp only[wr]at h;cases b:wr cs 0 new with
  |none=>simp[b]at h
  |some r=>
   simp[b]at h;subst h;have a:=sY b;unfold dH at a⊢;cases d:Nat.ble (0+new.length) cs.length with
   |false=>rw[d]at a;cases a
   |true=>
    have g:=aiy d;have f:Nat.ble (0+(n::new).length) (c::cs).length=true:=aiF (by simp;omega);simp only[d,aiP,ai5]at a;simp only[f,aiP,ai5];simp at a⊢;exact a
 |c::cs,off+1,new,MP,h=>by
  have f:(match wr cs off new with|some r=>some (c::r)|none=>none)=some MP:=by
   cases new<;>simpa [wr] using h
  cases b:wr cs off new with
  |none=>simp[b]at f
  |some r=>
   simp[b]at f;subst f;have a:=sY b;unfold dH at a⊢;cases d:Nat.ble (off+new.length) cs.length with
   |false=>simp[d]at a
   |true=>
    have i:=aiy d;have g:Nat.ble (off+1+new.length) (c::cs).length=true:=aiF (by simp;omega);simp only[d,aiP,ai5]at a;simp only[g,aiP,ai5];have e:off+1+new.length=(off+new.length)+1:=by omega
    rw[e,aiU,aky,aiA,aiA,a]
 |[],0,_::_,MP,h=>by simp[wr]at h
 |[],_+1,new,MP,h=>by cases new<;>simp[wr]at h
def sub{α:Type} :List α->Nat->Nat->Option (List α)
 |_,0,0=>some []
 |c::cs,0,n+1=>match sub cs 0 n with
  |some r=>some (c::r)
  |none=>none
 |_::cs,off+1,n=>sub cs off n
 |[],_,_=>none
theorem sub_eq{α:Type} :∀{cs:List α} {off n:Nat} {ds:List α},sub cs off n=some ds->off+n<=cs.length/\(cs.drop off).take n=ds
 |cs,0,0,ds,h=>by simp[sub]at h;subst h;simp
 |c::cs,0,n+1,ds,h=>by
  simp only[sub]at h;cases a:sub cs 0 n with
  |none=>simp[a]at h
  |some r=>
   simp[a]at h;subst h;obtain⟨d,b⟩:=sub_eq a;refine⟨by simp;omega,?_⟩;simp at b⊢;exact b
 |c::cs,off+1,n,ds,h=>by
  have a:sub cs off n=some ds:=by cases n<;>simpa [sub] using h
  obtain⟨b,d⟩:=sub_eq a;exact⟨by simp;omega,by grind⟩
 |[],0,n+1,ds,h=>by simp[sub]at h
 |[],off+1,n,ds,h=>by cases n<;>simp[sub]at h
def mK:List D->Option (List M)
 |[]=>some []
 |d::r=>match mK r with
  |some ms=>some (.d d::ms)
  |none=>none
def kS:∀{ds:List D} {ms:List M},mK ds=some ms->ms=ds.map .d
 |[],ms,h=>by simp[mK]at h;subst h;rfl
 |d::r,ms,h=>by
  simp only[mK]at h;cases a:mK r with
  |none=>simp[a]at h
  |some x=>simp[a]at h;subst h;simp[kS a]
def fr:M->Option (List M)
 |.d (.agg ds)=>mK ds
 |.agg cs=>some cs
 |.undef=>none
 |.c_ _=>none
 |m=>some [m]
def cS(h:fr m=some cs):cellsOf m=cs/\m.tK=true:=by
 unfold fr at h;split at h
 .rename_i a;rw[kS h];exact⟨W,W⟩
 .injection h with h;subst h;exact⟨W,W⟩
 .cases h
 .cases h
 .rename_i a b c e;injection h with h;subst h
  cases m with
  |d x=>cases x<;>first|exact⟨rfl,rfl⟩|exact absurd W (a _)
  |undef=>exact absurd W c
  |c_ f=>exact absurd W (e _)
  |agg cs=>exact absurd W (b _)
  |_=>exact⟨W,W⟩
def jW(ps:List (Nat×Nat))(cs:List M):List (Nat×M)->Option (List M)
 |[]=>some cs
 |(i,m)::r=>match ps[i]?,fr m with
  |some (off,b),some a=>bif Nat.beq a.length b then(match wr cs off a with
   |some MP=>jW ps MP r
   |none=>none)else none
  |_,_=>none
def lu:∀{parts:List (Nat×M)} {cs MP:List M},jW ps cs parts=some MP->gQ (λi=>ps[i]?) cs parts=some MP
 |[],cs,MP,h=>by simpa [jW,gQ] using h
 |(i,m)::r,cs,MP,h=>by
  simp only[jW]at h;split at h
  .rename_i l j g b c;obtain⟨d,e⟩:=cS c;cases a:Nat.beq g.length j with
   |false=>simp[a]at h
   |true=>
    simp only[a,aiP]at h;split at h
    .rename_i k f;simp only[gQ,b,d,e,a,Bool.and_self,aiP,sY f];exact lu h
    .cases h
  .cases h
def lx:Nat->List (Nat×M)->Option (List (List D))
 |_,[]=>some []
 |k,(i,.d d)::r=>bif Nat.beq i k then(match lx (k+1) r with
  |some a=>some (bz d::a)
  |none=>none)else none
 |_,_=>none
def eG(sl:List (Nat×V)):List (Nat×Operand)->Option (List (Nat×M))
 |[]=>some []
 |(i,x)::r=>match aS sl x,eG sl r with
  |some (.m m),some ms=>some ((i,m)::ms)
  |_,_=>none
def eH:∀{ps:List (Nat×Operand)},dI ⟨sl,bx,H⟩ ps=eG sl ps
 |[]=>rfl
 |(i,x)::r=>by simp only[dI,eG,eH (ps:=r)];rfl
def xU(g:0<n):∀{ms:List (Nat×M)} {k:Nat} {rows:List (List D)} {pre RJ:List M},lx k ms=some rows->(∀r∈rows,r.length=n)->pre.length=k*n->RJ.length=ms.length*n->
  gQ (λi=>some (i*n,n)) (pre++RJ) ms=some (pre++(rows.map λr=>r.map M.d).flatten)/\rows.length=ms.length
 |[],k,rows,pre,RJ,h,_,_,a=>by
  simp[lx]at h;subst h;simp at a;subst a;simp[gQ]
 |(i,m)::r,k,rows,pre,RJ,h,f,b,e=>by
  cases m with
  |d d=>
   simp only[lx]at h;cases c:Nat.beq i k with
   |false=>simp[c]at h
   |true=>
    have:=aiw c;subst this;simp only[c,aiP]at h;split at h
    .rename_i v j;injection h with h;subst h
     have l:(bz d).length=n:=f _ (by simp);have w:n<=RJ.length:=by rw[e];simp[ajt]
     have a:(cellsOf (.d d)).length=n:=by simp[cellsOf,l]
     have o:dH (pre++RJ) (i*n) (cellsOf (.d d))=some ((pre++cellsOf (.d d))++RJ.drop n):=by
      unfold dH;rw[aiF (by simp[a];omega)];have p:List.take (i*n) (pre++RJ)=pre:=by rw[<-b];simp
      have q:List.drop (i*n+n) (pre++RJ)=List.drop n RJ:=by
       rw[<-b,akO,akU (by omega)];simp
      simp only[aiP,a,p,q]
     obtain⟨s,t⟩:=xU g (k:=i+1) (pre:=pre++cellsOf (.d d)) (RJ:=RJ.drop n) j (λr a=>f r (by simp[a])) (by simp[b,a,ajt]) (by simp[e,ajt]);refine⟨?_,by simp[t]⟩;unfold gQ;have u:Nat.beq (cellsOf (.d d)).length n=true:=by rw[a];exact ald n
     simp only[u,M.tK,Bool.and_self,aiP,o];rw[s];simp[cellsOf]
    .cases h
  |_=>simp[lx]at h
theorem qx{n:Nat} :∀{rows:List (List D)},(∀r∈rows,r.length=n)->chunk n rows.length (rows.map λr=>r.map M.d).flatten=some rows
 |[],_=>rfl
 |r::a,h=>by
  have f:=h r (by simp);have e:∀l:List D,gg (l.map .d)=some l:=by
   intro l;induction l with
   |nil=>rfl
   |cons x l b=>simp[gg,b]
  have b:=qx (n:=n) (rows:=a) (λr a=>h r (by simp[a]));show chunk n (a.length+1) ((r.map M.d)++(a.map λr=>r.map M.d).flatten)=_;unfold chunk;have c:((r.map M.d)++(a.map λr=>r.map M.d).flatten).take n=r.map M.d:=by
   grind
  have d:((r.map M.d)++(a.map λr=>r.map M.d).flatten).drop n=(a.map λr=>r.map M.d).flatten:=by
   grind
  rw[c,d,e,b]
def jK(n:Nat):List (List D)->Bool
 |[]=>true
 |r::a=>Nat.beq r.length n&&jK n a
def sZ:∀{rows:List (List D)},jK n rows=true->∀r∈rows,r.length=n
 |[],_,r,a=>by cases a
 |x::b,h,r,a=>by
  simp only[jK,aiI]at h;cases a with
  |head=>exact aiw h.1
  |tail _ a=>exact sZ h.2 r a
def gx(sl:List (Nat×V)):List Operand->Option (List D)
 |[]=>some []
 |x::r=>match aS sl x,gx sl r with
  |some (.m (.d d)),some ds=>some (d::ds)
  |_,_=>none
def gu(sl:List (Nat×V)):List Operand->Option (List M)
 |[]=>some []
 |x::r=>match aS sl x,gu sl r with
  |some (.m m),some ds=>some (m::ds)
  |_,_=>none
def nC:∀{ps:List Operand},(⟨sl,bx,H⟩:St).gx ps=gx sl ps
 |[]=>rfl
 |x::r=>by simp only[St.gx,gx,nC (ps:=r)];rfl
def oV:∀{ps:List Operand},(⟨sl,bx,H⟩:St).gu ps=gu sl ps
 |[]=>rfl
 |x::r=>by simp only[St.gu,gu,oV (ps:=r)];rfl
section rules
variable{X:cQ}{ops:Array Oper}{rest:List Oper}{post:St->Prop}{sl:List (Nat×V)}{bx:List (Nat×List M)}{H:Hp}{d ty:Nat}{pos:String}{af:Array Edge}
def M3{o:Oper}{H':Hp}(a:o.guard=none)(b:o.dst=some d)(c:Nat.blt d X.n=true)(h:cD X o ⟨sl,bx,H⟩ (dq v ⟨M8,Ns,H'⟩))
  (k:TL X ops rest ⟨(d,v)::M8,Ns,H'⟩ post):TL X ops (o::rest) ⟨sl,bx,H⟩ post:=
 TL.kO (by simp[iM,a]) b c h k
def az(f:iM ops ⟨dst,op,ty,pos,af,some (j,w)⟩ ⟨sl,bx,H⟩=some true)
  (k:TL X ops (⟨dst,op,ty,pos,af,none⟩::rest) ⟨sl,bx,H⟩ post):TL X ops (⟨dst,op,ty,pos,af,some (j,w)⟩::rest) ⟨sl,bx,H⟩ post:=by
 rintro a g ⟨d,h,i,b⟩;have:=k a g ⟨d,h,i,b⟩;unfold wpList at this⊢;rw[air (b.wanted f)];rw[air (by simp[Region.wanted])]at this;have e:∀g:Option (Nat×Bool),execOp a.eval ⟨dst,op,ty,pos,af,g⟩=execOp a.eval ⟨dst,op,ty,pos,af,none⟩:=by
  intro m;cases op<;>rfl
 rcases this with this|⟨c,l⟩
 .left;unfold Oper.wp at this⊢;rw[e];exact this
 .right;refine⟨?_,l⟩;unfold Oper.asks at c⊢;rw[e];exact c
def bN(a:iM ops ⟨some d,op,ty,pos,af,some (j,w)⟩ ⟨sl,bx,H⟩=some false)(b:Nat.blt d X.n=true)
  (k:TL X ops rest ⟨(d,.m (.c_ []))::sl,bx,H⟩ post):TL X ops (⟨some d,op,ty,pos,af,some (j,w)⟩::rest) ⟨sl,bx,H⟩ post:=
 TL.skip a W b k
def aq(a:Nat.blt d X.n=true)(b:aS sl x=some v)(k:TL X ops rest ⟨(d,v)::sl,bx,H⟩ post):TL X ops (⟨some d,.move x,ty,pos,af,none⟩::rest) ⟨sl,bx,H⟩ post:=
 M3 W W a (xJ b) k
def aj(a:Nat.blt d X.n=true)(b:aS sl x=some v)(k:TL X ops rest ⟨(d,v)::sl,bx,H⟩ post):TL X ops (⟨some d,.assign x,ty,pos,af,none⟩::rest) ⟨sl,bx,H⟩ post:=
 M3 W W a (sI b) k
def gR{c:Operand}(a:Nat.blt d X.n=true)(e:aS sl c=some (.m (.d (.bool b))))(f:aS sl (bif b then x else y)=some v)(k:TL X ops rest ⟨(d,v)::sl,bx,H⟩ post):
  TL X ops (⟨some d,.pick c x y,ty,pos,af,none⟩::rest) ⟨sl,bx,H⟩ post:=by
 cases b
 .exact M3 W W a (sK e f) k
 .exact M3 W W a (sJ e f) k
def ay{op:BinOp}{m n:Int}(a:Nat.blt d X.n=true)(b:aS sl x=some (.m (.d (.int kk m))))(c:aS sl y=some (.m (.d (.int kk n))))
  (e:iK op kk m n=some r) (k:TL X ops rest ⟨(d,.m (.d r))::sl,bx,H⟩ post):TL X ops (⟨some d,.binOp op xt x y yt,ty,pos,af,none⟩::rest) ⟨sl,bx,H⟩ post:=
 M3 W W a (tJ b c e) k
def bc{m n:Int}(a:Nat.blt d X.n=true)(b:aS sl x=some (.m (.d (.int .i64 m))))(c:aS sl y=some (.m (.d (.int .i64 n))))
  (e: -9223372036854775808<=m+n/\m+n<=9223372036854775807) (k:TL X ops rest ⟨(d,.m (.d (.int .i64 (m+n))))::sl,bx,H⟩ post):TL X ops (⟨some d,.binOp .add xt x y yt,ty,pos,af,none⟩::rest) ⟨sl,bx,H⟩ post:=by
 refine ay a b c (r:=.int .i64 (m+n)) ?_ k;have:IntKind.i64.wrap (m+n)=m+n:=IntWalk.i64_in _ e;simp[iK,this]
def cj{m n:Int}(a:Nat.blt d X.n=true)(b:aS sl x=some (.m (.d (.int .i64 m))))(c:aS sl y=some (.m (.d (.int .i64 n))))
  (e: -9223372036854775808<=m-n/\m-n<=9223372036854775807) (k:TL X ops rest ⟨(d,.m (.d (.int .i64 (m-n))))::sl,bx,H⟩ post):TL X ops (⟨some d,.binOp .sub xt x y yt,ty,pos,af,none⟩::rest) ⟨sl,bx,H⟩ post:=by
 refine ay a b c (r:=.int .i64 (m-n)) ?_ k;have:IntKind.i64.wrap (m-n)=m-n:=IntWalk.i64_in _ e;simp[iK,this]
def DP{m n:Int}(a:Nat.blt d X.n=true)(b:aS sl x=some (.m (.d (.int kk m))))(c:aS sl y=some (.m (.d (.int kk n))))
  (e:(n==0)=false) (k:TL X ops rest ⟨(d,.m (.d (.int kk (m.tmod n))))::sl,bx,H⟩ post):TL X ops (⟨some d,.binOp .rem xt x y yt,ty,pos,af,none⟩::rest) ⟨sl,bx,H⟩ post:=
 M3 W W a (Fg b c e) k
def kg(a:Nat.blt d X.n=true)(c:aS sl x=some (.m (.d (.bool b))))(k:TL X ops rest ⟨(d,.m (.d (.bool (!b))))::sl,bx,H⟩ post):
  TL X ops (⟨some d,.unOp .not xt x,ty,pos,af,none⟩::rest) ⟨sl,bx,H⟩ post:=
 M3 W W a (Bl c) k
def xV{s:ByteArray}(a:Nat.blt d X.n=true)(b:aS sl x=some (.m (.d (.str s))))(c:aS sl y=some (.m (.d (.str u))))(k:TL X ops rest ⟨(d,.m (.d (.bool (decide (s=u)))))::sl,bx,H⟩ post):
  TL X ops (⟨some d,.binOp .eql xt x y yt,ty,pos,af,none⟩::rest) ⟨sl,bx,H⟩ post:=
 M3 W W a (u_ b c) k
def ky{s:ByteArray}(a:Nat.blt d X.n=true)(b:aS sl x=some (.m (.d (.str s))))(c:aS sl y=some (.m (.d (.str u))))(e:s.size+u.size<=9223372036854775807)(k:TL X ops rest ⟨(d,.m (.d (.str (s++u))))::sl,bx,H⟩ post):
  TL X ops (⟨some d,.binOp .add xt x y yt,ty,pos,af,none⟩::rest) ⟨sl,bx,H⟩ post:=
 M3 W W a (xP b c e) k
def gZ{v:D}(a:Nat.blt d X.n=true)(b:aS sl x=some (.m (.d v)))(k:TL X ops rest ⟨(d,.m (.d (.bM (bz v) 0)))::sl,bx,H⟩ post):
  TL X ops (⟨some d,.box t x,ty,pos,af,none⟩::rest) ⟨sl,bx,H⟩ post:=
 M3 W W a (Fi b) k
def aG{cs:List D}(a:Nat.blt d X.n=true)(b:aS sl x=some (.m (.d (.bM cs off))))[c:aL X.P s f o](k:TL X ops rest ⟨(d,.m (.d (.bM cs (off+o))))::sl,bx,H⟩ post):
  TL X ops (⟨some d,.fieldAddr s x f,ty,pos,af,none⟩::rest) ⟨sl,bx,H⟩ post:=
 M3 W W a (sP b) k
def aF(a:Nat.blt d X.n=true)(b:aS sl x=some (.loc t off))[c:aL X.P s f o](k:TL X ops rest ⟨(d,.loc t (off+o))::sl,bx,H⟩ post):
  TL X ops (⟨some d,.fieldAddr s x f,ty,pos,af,none⟩::rest) ⟨sl,bx,H⟩ post:=
 M3 W W a (sQ b) k
def dh(a:Nat.blt d X.n=true)(b:aS sl x=some (.m (.ref i off)))[c:aL X.P s f o](k:TL X ops rest ⟨(d,.m (.ref i (off+o)))::sl,bx,H⟩ post):
  TL X ops (⟨some d,.fieldAddr s x f,ty,pos,af,none⟩::rest) ⟨sl,bx,H⟩ post:=
 M3 W W a (sR b) k
def aI{cs:List D}{v:D}[ht:cI X.P t](a:Nat.blt d X.n=true)(b:aS sl x=some (.m (.d (.bM cs off))))(c:cs[off]?=some v)(k:TL X ops rest ⟨(d,.m (.d v))::sl,bx,H⟩ post):
  TL X ops (⟨some d,.load t x,ty,pos,af,none⟩::rest) ⟨sl,bx,H⟩ post:=
 M3 W W a (sM b c) k
def ca{cs:List D}[ht:dz X.P t n](a:Nat.blt d X.n=true)(b:aS sl x=some (.m (.d (.bM cs 0))))(c:cs.length=n)(k:TL X ops rest ⟨(d,.m (.d (.agg cs)))::sl,bx,H⟩ post):
  TL X ops (⟨some d,.load t x,ty,pos,af,none⟩::rest) ⟨sl,bx,H⟩ post:=
 M3 W W a (sN b c) k
def eh{cs:List D}[ht:dz X.P t n](b:Nat.blt d X.n=true)(c:aS sl x=some (.m (.d (.bM cs off))))(a:sub cs off n=some ds)(k:TL X ops rest ⟨(d,.m (.d (.agg ds)))::sl,bx,H⟩ post):
  TL X ops (⟨some d,.load t x,ty,pos,af,none⟩::rest) ⟨sl,bx,H⟩ post:=
 M3 W W b (px c (aiF (sub_eq a).1) (sub_eq a).2) k
def aJ[ht:cI X.P T](a:Nat.blt d X.n=true)(b:aS sl x=some (.loc t off))(c:get bx t=some cs)(e:cs[off]?=some m)(k:TL X ops rest ⟨(d,.m m)::sl,bx,H⟩ post):
  TL X ops (⟨some d,.load T x,ty,pos,af,none⟩::rest) ⟨sl,bx,H⟩ post:=
 M3 W W a (sW b c e) k
def bp[ht:dz X.P T n](b:Nat.blt d X.n=true)(c:aS sl x=some (.loc t off))(e:get bx t=some cs)(a:sub cs off n=some MP)
  (f:gg MP=some ds) (k:TL X ops rest ⟨(d,.m (.d (.agg ds)))::sl,bx,H⟩ post):TL X ops (⟨some d,.load T x,ty,pos,af,none⟩::rest) ⟨sl,bx,H⟩ post:=
 M3 W W b (sX c e (aiF (sub_eq a).1) (by rw[(sub_eq a).2];exact f)) k
def iX(a:Nat.blt d X.n=true)(b:aS sl x=some v)(c:sT v=true)
  (k:TL X ops rest ⟨(d,v)::sl,bx,H⟩ post):TL X ops (⟨some d,.nilCheck x,ty,pos,af,none⟩::rest) ⟨sl,bx,H⟩ post:=
 M3 W W a (py b c) k
def aY{v:D}[ht:aU X.P t e](a:Nat.blt d X.n=true)(b:aS sl x=some (.m (.d v)))(c:mz v=some n)
  (k:TL X ops rest ⟨(d,.m (.d (.int .i64 n)))::sl,bx,H⟩ post):TL X ops (⟨some d,.call ⟨.builtin .len,#[x],#[t]⟩,ty,pos,af,none⟩::rest) ⟨sl,bx,H⟩ post:=
 M3 W W a (xN b c) k
def bH{r:List D}{i:Int}[ht:aU X.P t e][f:bQ X.P e n](a:Nat.blt d X.n=true)(b:aS sl x=some (.m (.d (.sl rows))))(c:aS sl y=some (.m (.d (.int kk i))))
  (f:0<=i) (g:rows[i.toNat]?=some r) (h:r.length=n) (k:TL X ops rest ⟨(d,.m (.d (.bM r 0)))::sl,bx,H⟩ post):TL X ops (⟨some d,.indexAddr t x y,ty,pos,af,none⟩::rest) ⟨sl,bx,H⟩ post:=
 M3 W W a (xO b c f g h) k
def gH{a:List M}(b:Nat.blt d X.n=true)(c:aS sl x=some (.m (.c_ a)))(e:a[i]?=some m)(k:TL X ops rest ⟨(d,.m m)::sl,bx,H⟩ post):
  TL X ops (⟨some d,.extract x i,ty,pos,af,none⟩::rest) ⟨sl,bx,H⟩ post:=
 M3 W W b (qu c e) k
def aX[c:aW X.P f](h:PT X.P f ds (·=[r]))(a:Nat.blt d X.n=true)(b:gx sl args=some ds)(k:TL X ops rest ⟨(d,.m (.d r))::sl,bx,H⟩ post):
  TL X ops (⟨some d,.call ⟨.value (.func f),args.toArray,OU⟩,ty,pos,af,none⟩::rest) ⟨sl,bx,H⟩ post:=
 M3 W W a (Ae (by rw[nC];exact b) h) k
def tQ{q:List D->Prop}[e:aW X.P f](h:PT X.P f ds q)(a:Nat.blt d X.n=true)(b:gx sl args=some ds)
  (k:∀r,q r->TL X ops rest ⟨(d,.m (mI (r.map .d)))::sl,bx,H⟩ post):
  TL X ops (⟨some d,.call ⟨.value (.func f),args.toArray,OU⟩,ty,pos,af,none⟩::rest) ⟨sl,bx,H⟩ post:=
 TL.op W W a (Cd (by rw[nC];exact b) h) (by rintro v s ⟨r,rfl,c,rfl⟩;exact k r c)
def tS{Nh:List D}[e:aW X.P f](h:PT X.P f (ds++Nh) (·=[r]))(a:Nat.blt d X.n=true)(b:aS sl x=some (.m (.d (.fn f Nh))))(c:gx sl args=some ds)
  (k:TL X ops rest ⟨(d,.m (.d r))::sl,bx,H⟩ post):TL X ops (⟨some d,.call ⟨.value x,args.toArray,OU⟩,ty,pos,af,none⟩::rest) ⟨sl,bx,H⟩ post:=
 TL.op W W a (Gh b (by rw[nC];exact c) h) (by rintro v s ⟨g,rfl,rfl,rfl⟩;exact k)
theorem jj{ms:List M}{q:M->Hp->Prop}[c:aW X.P f](h:CT X.P f ms H q)(a:Nat.blt d X.n=true)(b:gu sl args=some ms)
  (k:∀r a,q r a->TL X ops rest ⟨(d,.m r)::sl,bx,a⟩ post):
  TL X ops (⟨some d,.call ⟨.value (.func f),args.toArray,OU⟩,ty,pos,af,none⟩::rest) ⟨sl,bx,H⟩ post:=
 TL.op W W a (vc (by rw[oV];exact b) h) (by grind)
def Ce{Nh:List Operand}(a:Nat.blt d X.n=true)(b:gx sl Nh=some ds)(k:TL X ops rest ⟨(d,.m (.d (.fn f ds)))::sl,bx,H⟩ post):
  TL X ops (⟨some d,.makeFunc (.func f) #[] Nh.toArray,ty,pos,af,none⟩::rest) ⟨sl,bx,H⟩ post:=
 M3 W W a (tN (by rw[nC];exact b)) k
def g_[ht:cE X.P T ps z](b:Nat.blt d X.n=true)(c:eG sl parts=some ms)(e:mK z=some zs)
  (f:jW ps zs ms=some cs) (h:gg cs=some ds) (k:TL X ops rest ⟨(d,.m (.d (.agg ds)))::sl,bx,H⟩ post):TL X ops (⟨some d,.build T parts.toArray,ty,pos,af,none⟩::rest) ⟨sl,bx,H⟩ post:=by
 have a:=mX (X:=X) (dst:=some d) (ty:=ty) (pos:=pos) (af:=af) (g:=none) (st:=⟨sl,bx,H⟩) (T:=T) (by rw[eH];exact c) (by rw[<-kS e];exact lu f);have:pack cs=.d (.agg ds):=by simp[pack,h]
 rw[this]at a;exact M3 W W b a k
def Ah[ht:cE X.P T ps z](b:Nat.blt d X.n=true)(c:eG sl parts=some ms)(e:mK z=some zs)
  (f:jW ps zs ms=some cs) (h:gg cs=none) (k:TL X ops rest ⟨(d,.m (.agg cs))::sl,bx,H⟩ post):TL X ops (⟨some d,.build T parts.toArray,ty,pos,af,none⟩::rest) ⟨sl,bx,H⟩ post:=by
 have a:=mX (X:=X) (dst:=some d) (ty:=ty) (pos:=pos) (af:=af) (g:=none) (st:=⟨sl,bx,H⟩) (T:=T) (by rw[eH];exact c) (by rw[<-kS e];exact lu f);have:pack cs=.agg cs:=by simp[pack,h]
 rw[this]at a;exact M3 W W b a k
def kT{g:Option (Nat×Bool)}{z:D}[ht:aU X.P T e][w:bQ X.P e n][x:fk X.P e z](a:Nat.blt 0 n=true)(o:Nat.beq (bz z).length n=true)
  (t:Nat.ble (len*n) 16777216=true) (q:dI st parts=some ms) (b:lx 0 ms=some rows) (u:Nat.beq rows.length len=true) (r:jK n rows=true):
  cD X ⟨dst,.buildSlice T len parts.toArray,ty,pos,af,g⟩ st (dq (.m (.d (.sl rows))) st):=by
 have c:=aiw u;have f:=sZ r;have s:rows.length=ms.length:=by
  have:∀{ms:List (Nat×M)} {k:Nat} {rows:List (List D)},lx k ms=some rows->rows.length=ms.length:=by
   intro ms
   induction ms with
   |nil=>intro k rows h;simp[lx]at h;subst h;rfl
   |cons p v y=>
    intro k rows h;obtain⟨l,m⟩:=p;cases m with
    |d d=>
     simp only[lx]at h;cases i:Nat.beq l k with
     |false=>simp[i]at h
     |true=>
      simp only[i,aiP]at h;split at h
      .grind
      .cases h
    |_=>simp[lx]at h
  exact this b
 obtain⟨j,A⟩:=xU (bj a) (k:=0) (pre:=[]) (RJ:=fQ n len (bz z)) b f (by simp) (by simp[fQ];rw[<-c,s]);simp only[aiK]at j;exact xT a (aiw o) t q j (by rw[<-c];exact qx f)
def dF{z:D}[ht:aU X.P T e][f:bQ X.P e n][g:fk X.P e z](a:Nat.blt d X.n=true)(b:Nat.blt 0 n=true)(c:Nat.beq (bz z).length n=true)
  (i:Nat.ble (len*n) 16777216=true) (f:eG sl parts=some ms) (g:lx 0 ms=some rows) (j:Nat.beq rows.length len=true) (h:jK n rows=true)
  (k:TL X ops rest ⟨(d,.m (.d (.sl rows)))::sl,bx,H⟩ post):TL X ops (⟨some d,.buildSlice T len parts.toArray,ty,pos,af,none⟩::rest) ⟨sl,bx,H⟩ post:=
 M3 W W a (kT b c i (by rw[eH];exact f) g j h) k
class iY(P:Program)(t:Nat)(cs:outParam (List M)):Prop where
 h:∃z,xn P t z/\(bz z).map .d=cs
def cG[c:iY X.P T cs](f:Nat.blt d X.n=true)(i:gP d sl=true)(k:TL X ops rest ⟨(d,.loc d 0)::sl,(d,cs)::bx,H⟩ post):
  TL X ops (⟨some d,.alloc T,ty,pos,af,none⟩::rest) ⟨sl,bx,H⟩ post:=by
 obtain⟨z,n,j⟩:=c.h;subst j;have b:=Af (X:=X) (st:=⟨sl,bx,H⟩) (d:=d) (T:=T) (ty:=ty) (pos:=pos) (af:=af) (g:=none);have e:cX d sl=sl:=by
  have:∀l:List (Nat×V),gP d l=true->cX d l=l:=by
   intro l
   induction l with
   |nil=>intro _;rfl
   |cons x l a=>
    obtain⟨k,v⟩:=x;cases v with
    |m m=>intro h;simp only[gP]at h;simp[cX,a h]
    |tl o p q r=>intro h;simp only[gP]at h;simp[cX,a h]
    |loc u o=>intro h;simp only[gP,aiI,ajp]at h;simp[cX,h.1,a h.2]
  exact this sl i
 simp only[e]at b;exact M3 W W f b k
def gy(c:Nat.blt d X.n=true)(f:gP d sl=true)(i:aS sl x=some (.m m))(j:fr m=some cs)(k:TL X ops rest ⟨(d,.loc d 0)::sl,(d,cs)::bx,H⟩ post):
  TL X ops (⟨some d,.box T x,ty,pos,af,none⟩::rest) ⟨sl,bx,H⟩ post:=by
 obtain⟨n,o⟩:=cS j;have b:=HG (X:=X) (st:=⟨sl,bx,H⟩) (d:=d) (T:=T) (ty:=ty) (pos:=pos) (af:=af) (g:=none) i o;have e:cX d sl=sl:=by
  have:∀l:List (Nat×V),gP d l=true->cX d l=l:=by
   intro l
   induction l with
   |nil=>intro _;rfl
   |cons x l a=>
    obtain⟨k,v⟩:=x;cases v with
    |m m=>intro h;simp only[gP]at h;simp[cX,a h]
    |tl p q r s=>intro h;simp only[gP]at h;simp[cX,a h]
    |loc u p=>intro h;simp only[gP,aiI,ajp]at h;simp[cX,h.1,a h.2]
  exact this sl f
 simp only[e,n]at b;exact M3 W W c b k
def aK{new:List M}[i:bQ X.P T n](a:aS sl x=some (.loc t off))(b:aS sl y=some (.m m))(c:get bx t=some cs)(d:fr m=some new)
  (e:Nat.beq new.length n=true) (f:wr cs off new=some MP) (k:TL X ops rest ⟨sl,(t,MP)::bx,H⟩ post):TL X ops (⟨none,.store T x y,ty,pos,af,none⟩::rest) ⟨sl,bx,H⟩ post:=by
 obtain⟨g,h⟩:=cS d;subst g;exact TL.Ff W W (xR a b c (aiw e) h (sY f)) k
theorem Inv.gL{a:Act}{w:World}(h:Inv X ⟨sl,bx,H⟩ a w)(g:∀t v,get M8 t=some v->get sl t=some v)
  (i:∀t,get Ns t=get bx t):Inv X ⟨M8,Ns,H⟩ a w:=by
 obtain⟨f,d,j,c⟩:=h;refine⟨f,d,j,c.hH,c.defers,c.size,λt v h=>c.slot t v (g t v h),λt d h=>c.box t d (by grind),λt u d f h g=>c.og t u d f (by grind) (by grind),
  λt d h=>c.oR t d (by grind),λt d h=>c.oS t d (by grind),?_,c.mono,c.aT⟩
 have e:∀b o,mx X.jB d Ns b o↔mx X.jB d bx b o:=by intro b o;simp[mx,i]
 exact⟨c.hinv.obj,c.hinv.inj,λb o=>by rw[e];exact c.hinv.own b o,λi f d g o j=>c.hinv.sep i f d g o ((e _ _).1 j),λb o d=>c.hinv.iW b o ((e _ _).1 d)⟩
def keeps(sl M8:List (Nat×V)):Prop:=(M8.map λp=>get sl p.1)=M8.map λp=>some p.2
def kc{r:List (Nat×V)}(h:get sl t=some v)(k:keeps sl r):keeps sl ((t,v)::r):=by
 show get sl t::_=some v::_;rw[h];exact ajj _ k
def fS:∀{M8:List (Nat×V)},keeps sl M8->∀t v,get M8 t=some v->get sl t=some v
 |[],_,t,v,h=>by simp[get]at h
 |(k,u)::r,a,t,v,h=>by
  injection a with b c
  rcases bL h with⟨rfl,rfl⟩|⟨e,d⟩
  .exact b
  .exact fS c t v d
end rules
def TC.gL(h:TC X c ⟨M8,bx,H⟩ post)(b:keeps sl M8):TC X c ⟨sl,bx,H⟩ post:=
 λa w d=>h a w (d.gL (fS b) (λ_=>rfl))
def TC.DQ(I:Nat->St->Prop)(d:Nat)(b:St)(f:I d b)(g:∀a w,Inv X st a w->Inv X b a w)
  (r:∀k s,I k s->TC X c s (after post λd=>∃a b,a<k/\I a b/\∀a w,Inv X d a w->Inv X b a w)):TC X (.loop c) st post:=by
 intro a w l;refine wp_loop_ghost (λk a w=>∃s,I k s/\Inv X s a w) d ⟨b,f,(g a w l)⟩ ?_;rintro k a w ⟨s,m,n⟩;refine wp_mono (r k s m a w n) ?_;intro e t u ⟨h,h3,h4⟩;cases e with
 |normal=>obtain⟨i,j,o,p,q⟩:=h3;exact⟨i,o,j,p,q _ _ h4⟩
 |_=>exact⟨h,h3,h4⟩
end Go.Mt
namespace Go.Mt
variable{X:cQ}{ops:Array Oper}{st:St}{o:Oper}{i:Nat}{α:Type}
structure Ef where
 d:Option Nat
 v:V
 rb:List Nat
 wb:List (Nat×List M)
 nw:Option Nat
 rh:Bool
 wh:Option Hp
variable{post:List Ef->St->Prop}
def Ef.app(e:Ef)(st:St):St:=
 ⟨match e.d with|some d=>(d,e.v)::st.sl|none=>st.sl,e.wb++st.bx,match e.wh with|some h=>h|none=>st.H⟩
def xf(X:cQ)(ops:Array Oper)(o:Oper)(st c:St):Prop:=
 ∀a w,Inv X st a w->∀(K:Act->World->Prop) (Q:Exit->Act->World->Prop),(∀a b,Inv X c a b->K a b)->
  if Region.wanted o (yielded ops a.tmps)then o.wp X.P a w K Q else K (a.put o.dst undef) w
structure Ag(ops:Array Oper)(o:Oper)(e:Ef)(st a:St):Prop where
 sl:∀t∈o.looksAt ops,get a.sl t=get st.sl t
 bx:∀t∈e.rb++e.wb.map (·.1),get a.bx t=get st.bx t
 H:(e.rh||e.wh.isSome)=true->a.H=st.H
 nw:∀d,e.nw=some d->∀t o,get a.sl t≠some (.loc d o)
def js(X:cQ)(ops:Array Oper)(o:Oper)(e:Ef)(st:St):Prop:=∀a,Ag ops o e st a->xf X ops o a (e.app a)
inductive Ai(X:cQ)(ops:Array Oper):List Oper->St->List Ef->St->Prop where
 |nil (st:St):Ai X ops [] st [] st
 |cons {o:Oper} {os:List Oper} {st a:St} {e:Ef} {es:List Ef} (h:js X ops o e st) (b:e.d=o.dst) (k:Ai X ops os (e.app st) es a):Ai X ops (o::os) st (e::es) a
def TF(X:cQ)(ops:Array Oper)(l:List Oper)(st:St)(post:List Ef->St->Prop):Prop:=∃a b,Ai X ops l st a b/\post a b
def TF.nil(h:post [] st):TF X ops [] st post:=⟨[],st,.nil st,h⟩
def TF.cons{rest:List Oper}{e:Ef}(h:js X ops o e st)(a:e.d=o.dst)
  (k:TF X ops rest (e.app st) λa s=>post (e::a) s):TF X ops (o::rest) st post:=by
 obtain⟨b,c,d,f⟩:=k;exact⟨e::b,c,.cons h a d,f⟩
def jk(ops:List Oper):List (List Nat):=
 ops.foldl (λa o=>a++[(o.after.toList.filter (Region.binds .any)).flatMap λe=>e.on::a.getD e.on []]) []
def has(l:List Nat)(i:Nat):Bool:=l.any λx=>Nat.beq x i
def slotsOf(ops:Array Oper)(o:Oper):List Nat:=o.looksAt ops++o.dst.toList
def fT(ops:Array Oper)(x y:Oper)(e f:Ef):Bool:=
 (match x.dst with|some d=>has (slotsOf ops y) d|none=>false)||(match y.dst with|some d=>has (slotsOf ops x) d|none=>false)||
 (e.wb.any λp=>has (f.rb++f.wb.map (·.1)) p.1)||(f.wb.any λp=>has (e.rb++e.wb.map (·.1)) p.1)||
 (e.wh.isSome&&(f.rh||f.wh.isSome))||(f.wh.isSome&&e.rh)||
 (match e.nw,f.v with|some d,.loc u _=>Nat.beq u d|_,_=>false)
def xW(e f:Ef):Bool:=match f.nw,e.v with
 |some d,.loc u _=>Nat.beq u d
 |_,_=>false
def qy:Nat->List Oper->Bool
 |_,[]=>true
 |j,o::r=>(o.after.toList.all λe=> !Region.binds .any e||Nat.blt e.on j)&&qy (j+1) r
def rE(ops:Array Oper)(x:Oper)(e:Ef)(i:Nat):List Oper->List Ef->List (List Nat)->Bool
 |y::a,f::c,b::d=>(!fT ops x y e f||has b i)&& !xW e f&&rE ops x e i a c d
 |_,_,_=>true
def qz(ops:Array Oper):Nat->List Oper->List Ef->List (List Nat)->Bool
 |i,x::a,e::es,b::c=>rE ops x e i a es c&&qz ops (i+1) a es c
 |_,_,_,_=>true
def nD(sl:List (Nat×V)):List Ef->Bool
 |[]=>true
 |e::es=>(match e.nw with|some d=>gP d sl|none=>true)&&nD sl es
def kU(ops:List Oper)(sl:List (Nat×V))(es:List Ef):Bool:=
 qy 0 ops&&qz ops.toArray 0 ops es (jk ops)&&nD sl es
def jm{l:List Nat} :has l i=true↔i∈l:=by
 unfold has;rw[ajr];constructor
 .rintro⟨x,a,b⟩;rw[<-aiw b];exact a
 .intro h;exact⟨i,h,ald i⟩
def S(st:St)(es:List Ef)(a:Nat->Bool):Nat->St
 |0=>st
 |k+1=>match es[k]? with
  |some e=>bif a k then e.app (S st es a k)else S st es a k
  |none=>S st es a k
structure Part(α:Type)(es:List Ef)where
 r:St->α
 W:Nat->Bool
 c:Nat->α
 fY:∀k e s,es[k]?=some e->W k=false->r (e.app s)=r s
 write:∀k e s,es[k]?=some e->W k=true->r (e.app s)=c k
section parts
variable{α:Type}{es:List Ef}(p:Part α es){st:St}
def vd(L a:Nat->Bool):∀n,(∀k,k<n->p.W k=true->L k=a k)->p.r (S st es L n)=p.r (S st es a n)
 |0,_=>rfl
 |n+1,h=>by
  have d:=vd L a n (λk a=>h k (by omega));simp only[S];cases c:es[n]? with
  |none=>exact d
  |some e=>
   simp only;cases b:p.W n with
   |false=>
    cases f:L n<;>cases g:a n<;>simp only[aiP,akb]<;>(try rw[p.fY n e _ c b])<;>(try rw[p.fY n e _ c b])<;>exact d
   |true=>
    have:=h n (by omega) b;rw[this];cases f:a n<;>simp only[aiP,akb]
    .exact d
    .rw[p.write n e _ c b,p.write n e _ c b]
def Bq(L:Nat->Bool)(i:Nat):∀n,i<=n->(∀k,i<=k->k<n->p.W k=true->L k=false)->p.r (S st es L n)=p.r (S st es L i)
 |0,a,_=>by
  have:i=0:=by omega
  subst this;rfl
 |n+1,f,h=>by
  by_cases e:i=n+1
  .subst e;rfl
  .have a:=Bq L i n (by omega) (λk a b=>h k a (by omega));simp only[S];cases d:es[n]? with
   |none=>exact a
   |some e=>
    simp only;cases b:L n with
    |false=>exact a
    |true=>
     simp only[aiP];cases c:p.W n with
     |false=>rw[p.fY n e _ d c];exact a
     |true=>rw[h n (by omega) (by omega) c]at b;cases b
def oW(L:Nat->Bool)(i m:Nat)(hi:i<=m)(a:∀k,k<i->p.W k=true->L k=true)(b:∀k,i<=k->k<m->p.W k=true->L k=false):
  p.r (S st es L m)=p.r (S st es (λ_=>true) i):=
 (Bq p L i m hi b).trans (vd p L _ i λk b c=>a k b c)
def ve(L:Nat->Bool)(i m:Nat)(hi:i<m)(e:Ef)(b:es[i]?=some e)(f:L i=false)(d:p.W i=true->∀k,i<k->k<m->p.W k=true->L k=false):
  p.r (S st es (λk=>if k=i then true else L k) m)=p.r (e.app (S st es L m)):=by
 cases a:p.W i with
 |true=>
  rw[p.write i e _ b a];have:=Bq p (st:=st) (λk=>if k=i then true else L k) (i+1) m (by omega) (λk b b c=>by
   have:k≠i:=by omega
   simp[this];exact d a k (by omega) b c)
  rw[this];simp only[S,b,ajL,aiP];exact p.write i e _ b a
 |false=>
  rw[p.fY i e _ b a];exact vd p _ _ m λk g c=>by
   have:k≠i:=by rintro rfl;rw[a]at c;cases c
   simp[this]
end parts
def kz(es:List Ef)(t:Nat):Part (Option V) es where
 r s:=get s.sl t
 W k:=match es[k]? with
  |some e=>match e.d with|some d=>Nat.beq d t|none=>false
  |none=>false
 c k:=match es[k]? with|some e=>some e.v|none=>none
 fY k e s he hw:=by
  simp only[he]at hw;unfold Ef.app;cases hd:e.d with
  |none=>rfl
  |some d=>
   simp only[hd]at hw;have:d≠t:=by rintro rfl;simp at hw
   simp[bP,this]
 write k e s he hw:=by
  simp only[he]at hw⊢;unfold Ef.app;cases hd:e.d with
  |none=>simp[hd]at hw
  |some d=>
   simp only[hd]at hw;have:=aiw hw;subst this;simp[bP]
def get_append(l r:List (Nat×α))(t:Nat):get (l++r) t=match get l t with|some v=>some v|none=>get r t:=by
 induction l with
 |nil=>rfl
 |cons x l a=>
  obtain⟨k,v⟩:=x;rw[aiA,bP,bP];by_cases e:k=t
  .simp[e]
  .simp[e,a]
def sp(l:List (Nat×α))(t:Nat):(get l t).isSome=has (l.map (·.1)) t:=by
 induction l with
 |nil=>rfl
 |cons x l a=>
  obtain⟨k,v⟩:=x;rw[bP];by_cases e:k=t
  .subst e;simp[has]
  .have:Nat.beq k t=false:=by rw[<-akj];intro h;exact e (aiw h)
   simp only[e,aju,a,has,aiq,List.any_cons,this,Bool.false_or]
def mh(es:List Ef)(t:Nat):Part (Option (List M)) es where
 r s:=get s.bx t
 W k:=match es[k]? with
  |some e=>has (e.wb.map (·.1)) t
  |none=>false
 c k:=match es[k]? with|some e=>get e.wb t|none=>none
 fY k e s he hw:=by
  simp only[he]at hw;have h:=sp e.wb t;rw[hw]at h;show get (e.wb++s.bx) t=_;rw[get_append];cases hg:get e.wb t with
  |none=>rfl
  |some v=>rw[hg]at h;cases h
 write k e s he hw:=by
  simp only[he]at hw⊢;have h:=sp e.wb t;rw[hw]at h;show get (e.wb++s.bx) t=_;rw[get_append];cases hg:get e.wb t with
  |none=>rw[hg]at h;cases h
  |some v=>rfl
def kA(es:List Ef):Part Hp es where
 r s:=s.H
 W k:=match es[k]? with
  |some e=>e.wh.isSome
  |none=>false
 c k:=match es[k]? with|some e=>(match e.wh with|some h=>h|none=>[])|none=>[]
 fY k e s he hw:=by
  simp only[he]at hw;unfold Ef.app;cases hh:e.wh with
  |none=>rfl
  |some h=>rw[hh]at hw;cases hw
 write k e s he hw:=by
  simp only[he]at hw⊢;unfold Ef.app;cases hh:e.wh with
  |none=>rw[hh]at hw;cases hw
  |some h=>rfl
def mP:∀(ops:List Oper),(jk ops).length=ops.length:=by
 have:∀(ops:List Oper) (a:List (List Nat)),(ops.foldl (λa o=>a++[(o.after.toList.filter (Region.binds .any)).flatMap λe=>e.on::a.getD e.on []]) a).length=a.length+ops.length:=by
  intro ops
  induction ops with
  |nil=>intro a;simp
  |cons o ops a=>intro b;rw[aii,a];simp;omega
 intro ops;unfold jk;rw[this];simp
def Aj{ops:List Oper}{j:Nat}{b:List Nat}(l:ops[j]?=some o)(a:(jk ops)[j]?=some b)(hi:i∈b):
  ∃e∈o.after.toList,Region.binds .any e=true/\(e.on=i\/∃b',(jk ops)[e.on]?=some b'/\e.on<j/\i∈b'):=by
 have p:∀(ops:List Oper) (a:List (List Nat)) (j:Nat) (o:Oper) (b:List Nat),ops[j]?=some o->
   (ops.foldl (λa o=>a++[(o.after.toList.filter (Region.binds .any)).flatMap λe=>e.on::a.getD e.on []]) a)[a.length+j]?=some b->
   ∃c:List (List Nat),c.length=a.length+j/\(∀k,k<a.length+j->c[k]?=(ops.foldl (λa o=>a++[(o.after.toList.filter (Region.binds .any)).flatMap λe=>e.on::a.getD e.on []]) a)[k]?)/\
    b=(o.after.toList.filter (Region.binds .any)).flatMap λe=>e.on::c.getD e.on []:=by
  have pre:∀(ops:List Oper) (a:List (List Nat)) (k:Nat),k<a.length->
    (ops.foldl (λa o=>a++[(o.after.toList.filter (Region.binds .any)).flatMap λe=>e.on::a.getD e.on []]) a)[k]?=a[k]?:=by
   intro ops
   induction ops with
   |nil=>intro d k _;rfl
   |cons o ops d=>
    intro q k h;rw[aii,d _ k (by simp;omega),aim h]
  intro ops
  induction ops with
  |nil=>intro d j o b h;simp at h
  |cons x ops k=>
   intro d j o b h a;cases j with
   |zero=>
    simp at h;subst h;rw[aii,pre _ _ _ (by simp)]at a;simp at a;refine⟨d,by simp,?_,a.symm⟩;intro q r;rw[aii,pre _ _ _ (by simp;omega),aim (by omega)]
   |succ j=>
    rw[aii]at a⊢;have e:d.length+(j+1)=(d++[(x.after.toList.filter (Region.binds .any)).flatMap λe=>e.on::d.getD e.on []]).length+j:=by simp;omega
    rw[e]at a⊢;exact k _ j o b (by simpa using h) a
 obtain⟨c,g,m,n⟩:=p ops [] j o b l (by simpa [jk] using a);subst n;rw[List.mem_flatMap]at hi;obtain⟨e,f,hi⟩:=hi;rw[akv]at f;refine⟨e,f.1,f.2,?_⟩;simp only[aib]at hi;rcases hi with hi|hi
 .exact .inl hi.symm
 .right;have d:e.on<c.length:=by
   rcases ais e.on c.length with h|h
   .exact h
   .simp[ail h]at hi
  have:c[e.on]?=(jk ops)[e.on]?:=by
   have:=m e.on (by simp at g⊢;omega);simpa [jk] using this
  refine⟨c[e.on],by rw[<-this];simp[d],by simp at g;omega,?_⟩;simpa [List.getD,d] using hi
end Go.Mt
namespace Go.Mt
variable{ops l:List Oper}{I:Hp->Prop}{st M2:St}{X:cQ}{es:List Ef}{S9:Array Oper}{id:Nat}{post:Exit->St->Prop}
def qA{x:Oper}{e:Ef}{i:Nat} :∀{a:List Oper} {c:List Ef} {bs:List (List Nat)},rE S9 x e i a c bs=true->
  ∀(j:Nat) y f b,a[j]?=some y->c[j]?=some f->bs[j]?=some b->(fT S9 x y e f=true->i∈b)/\xW e f=false
 |[],_,_,_,j,y,f,b,a,_,_=>by simp at a
 |_::_,[],_,_,j,y,f,b,_,a,_=>by simp at a
 |_::_,_::_,[],_,j,y,f,b,_,_,a=>by simp at a
 |n::l,o::m,p::bs,h,j,y,f,b,a,c,d=>by
  simp only[rE,aiI,ajN,ajp]at h;cases j with
  |zero=>
   simp at a c d;subst a;subst c;subst d;refine⟨λk=>?_,h.1.2⟩;rcases h.1.1 with g|g
   .rw[g]at k;cases k
   .exact jm.1 g
  |succ j=>simp at a c d;exact qA h.2 j y f b a c d
def oF:∀{xs:List Oper} {es:List Ef} {bs:List (List Nat)} {n:Nat},qz S9 n xs es bs=true->
  ∀(i j:Nat) x e y f b,i<j->xs[i]?=some x->es[i]?=some e->xs[j]?=some y->es[j]?=some f->bs[j]?=some b->(fT S9 x y e f=true->n+i∈b)/\xW e f=false
 |[],_,_,n,_,i,j,x,e,y,f,b,_,a,_,_,_,_=>by simp at a
 |_::_,[],_,n,_,i,j,x,e,y,f,b,_,_,a,_,_,_=>by simp at a
 |_::_,_::_,[],n,_,i,j,x,e,y,f,b,_,_,_,_,_,a=>by simp at a
 |l::xs,m::es,o::bs,n,k,i,j,x,e,y,f,b,p,a,c,g,h,d=>by
  simp only[qz,aiI]at k;cases j with
  |zero=>omega
  |succ j=>
   cases i with
   |zero=>
    simp at a c g h d;subst a;subst c;exact qA k.1 j y f b g h d
   |succ i=>
    simp at a c g h d;have:=oF k.2 i j x e y f b (by omega) a c g h d;rw[show n+(i+1)=n+1+i by omega];exact this
def oG:∀{ops:List Oper} {n:Nat},qy n ops=true->∀(j:Nat) o,ops[j]?=some o->∀e∈o.after.toList,Region.binds .any e=true->e.on<n+j
 |[],n,_,j,o,a,_,_,_=>by simp at a
 |x::r,n,h,j,o,a,e,d,b=>by
  simp only[qy,aiI,ajm,ajN,ajp]at h;cases j with
  |zero=>
   simp at a;subst a;rcases h.1 e d with c|c
   .rw[c]at b;cases b
   .have:=bj c;omega
  |succ j=>simp at a;have:=oG h.2 j o a e d b;omega
def jn(st:St)(es:List Ef):∀k,S st es (λ_=>true) k=(es.take k).foldl (λs e=>e.app s) st
 |0=>rfl
 |k+1=>by
  simp only[S];cases a:es[k]? with
  |none=>
   have b:es.length<=k:=by rcases ais k es.length with h|h;simp[aiM h]at a;exact h
   rw[jn st es k,aje b,aje (by omega)]
  |some e=>
   simp only[aiP];rw[jn st es k];have b:k<es.length:=by rcases ais k es.length with h|h;exact h;simp[ail h]at a
   rw[ah5 b,aiC];have:es[k]=e:=by simpa [aiM b] using a
   rw[this];rfl
def n7:Nat->(Nat->Bool)->Nat
 |0,_=>0
 |k+1,f=>n7 k f+(bif f k then 0 else 1)
def xX:∀{m:Nat} {f g:Nat->Bool},(∀k,k<m->f k=g k)->n7 m f=n7 m g
 |0,_,_,_=>rfl
 |m+1,f,g,h=>by simp only[n7];rw[xX (λk a=>h k (by omega)),h m (by omega)]
def rF:∀{m:Nat} {f:Nat->Bool},n7 m f=0->∀k,k<m->f k=true
 |0,f,_,k,a=>by omega
 |m+1,f,h,k,b=>by
  simp only[n7]at h;cases a:f m with
  |false=>simp[a]at h
  |true=>
   simp[a]at h;by_cases e:k=m
   .rw[e];exact a
   .exact rF h k (by omega)
def tT:∀{m:Nat} {f:Nat->Bool},0<n7 m f->∃i,i<m/\f i=false/\∀k,k<i->f k=true
 |0,f,h=>by simp[n7]at h
 |m+1,f,h=>by
  by_cases c:0<n7 m f
  .obtain⟨i,d,a,b⟩:=tT c;exact⟨i,by omega,a,b⟩
  .have a:n7 m f=0:=by omega
   simp only[n7,a]at h;cases b:f m with
   |false=>exact⟨m,by omega,b,rF a⟩
   |true=>simp[b]at h
def xY:∀{m:Nat} {f:Nat->Bool} {i:Nat},i<m->f i=false->n7 m (λk=>if k=i then true else f k)+1=n7 m f
 |0,f,i,h,_=>by omega
 |m+1,f,i,h,a=>by
  simp only[n7];by_cases e:i=m
  .subst e;have:n7 i (λk=>if k=i then true else f k)=n7 i f:=xX λk a=>by simp[show k≠i by omega]
   simp only[this,ajL,a,aiP,akb,ajO]
  .have:=xY (m:=m) (f:=f) (i:=i) (by omega) a;have b:m≠i:=by omega
   simp only[b,aju];omega
def Br(X:cQ)(I:Hp->Prop)(ops:Array Oper)(o:Oper)(e:Ef)(st:St):Prop:=∀a,Ag ops o e st a->I a.H->xf X ops o a (e.app a)
inductive qC(X:cQ)(I:Hp->Prop)(ops:Array Oper):List Oper->St->List Ef->St->Prop where
 |nil (st:St):qC X I ops [] st [] st
 |cons {o:Oper} {os:List Oper} {st M2:St} {e:Ef} {es:List Ef} (h:Br X I ops o e st) (a:e.d=o.dst) (k:qC X I ops os (e.app st) es M2):qC X I ops (o::os) st (e::es) M2
def mC(X:cQ)(I:Hp->Prop)(ops:Array Oper)(l:List Oper)(st:St)(post:List Ef->St->Prop):Prop:=∃a b,qC X I ops l st a b/\post a b
def qC.spec(h:qC X I S9 l st es M2):
  es.length=l.length/\M2=es.foldl (λs e=>e.app s) st/\∀(i:Nat) o e,l[i]?=some o->es[i]?=some e->Br X I S9 o e ((es.take i).foldl (λs e=>e.app s) st)/\e.d=o.dst:=by
 induction h with
 |nil st=>exact⟨W,W,by simp⟩
 |cons h c k d=>
  obtain⟨f,g,j⟩:=d;refine⟨by simp[f],g,λi o e a b=>?_⟩;cases i with
  |zero=>simp at a b;subst a;subst b;exact⟨h,c⟩
  |succ i=>simp at a b;exact j i o e a b
def tU(ops:List Oper)(k:Nat):Bool:=match(jk ops)[k]? with
 |some b=>(List.range ops.length).all λi=>Nat.beq i k||has b i
 |none=>false
def wl{k:Nat}(h:tU ops k=true)(i:Nat)(hi:i<ops.length)(c:i≠k):∃b,(jk ops)[k]?=some b/\i∈b:=by
 unfold tU at h;split at h
 .rename_i b d;rw[ajm]at h;have:=h i (ajI.2 hi);rw[ajN]at this;rcases this with a|a
  .exact absurd (aiw a) c
  .exact⟨b,d,jm.1 a⟩
 .cases h
def lX(I:Hp->Prop)(ops:List Oper):Nat->List Ef->Prop
 |_,[]=>True
 |k,e::r=>(match e.wh with|none=>True|some h=>I h\/tU ops k=true)/\lX I ops (k+1) r
def lX.Kz:∀{es:List Ef} {n:Nat},lX I ops n es->∀(k:Nat) f,es[k]?=some f->∀h,f.wh=some h->I h\/tU ops (n+k)=true
 |[],_,_,k,f,a,_,_=>by simp at a
 |e::r,n,⟨b,d⟩,k,f,a,h,c=>by
  cases k with
  |zero=>simp at a;subst a;rw[c]at b;exact b
  |succ k=>
   simp at a;have:=d.Kz k f a h c
   rwa [show n+1+k=n+(k+1) by omega]at this
def lX.mem(h:lX I ops 0 es)(k:Nat)(f:Ef)(a:es[k]?=some f)(H:Hp)(b:f.wh=some H):I H\/tU ops k=true:=by
 have:=h.Kz k f a H b
 rwa [ai8]at this
def xZ(I:Hp->Prop)(b:I st.H){L:Nat->Bool}(c:∀(k:Nat) f h,es[k]?=some f->L k=true->f.wh=some h->I h):∀n,I (S st es L n).H
 |0=>b
 |n+1=>by
  simp only[S];have a:=xZ I b c n;cases d:es[n]? with
  |none=>exact a
  |some e=>
   simp only;cases f:L n with
   |false=>exact a
   |true=>
    simp only[aiP,Ef.app];cases g:e.wh with
    |none=>exact a
    |some h=>exact c n e h d f g
def TC.HI(I:Hp->Prop)(Uz:I st.H)(hm:X.P.follows .mixedOrders=true)
  (h:mC X I ops.toArray ops st λa c=>kU ops st.sl a=true/\lX I ops 0 a/\post .normal c):TC X (.region id ops.toArray true) st post:=by
 obtain⟨a,J,OC,R,YP,PB⟩:=h;obtain⟨d7,Vy,T⟩:=OC.spec;simp only[kU,aiI]at R;obtain⟨⟨UA,Th⟩,Ti⟩:=R;have hE:=oG UA;have K:=oF Th;have PW:J=S st a (λ_=>true) ops.length:=by rw[jn,aje (by omega),Vy]
 have u:∀(k:Nat) e,a[k]?=some e->∃o b,ops[k]?=some o/\(jk ops)[k]?=some b/\e.d=o.dst/\k<ops.length:=by
  intro k e c;have j:k<a.length:=by rcases ais k a.length with h|h;exact h;simp[ail h]at c
  have g:ops[k]?=some ops[k]:=by simp[show k<ops.length by omega]
  have i:k<(jk ops).length:=by rw[mP];omega
  exact⟨ops[k],(jk ops)[k],g,by simp[i],(T k _ e g c).2,by omega⟩
 have SR:∀(k:Nat) e d,a[k]?=some e->e.nw=some d->gP d st.sl=true:=by
  have:∀(l:List Ef),nD st.sl l=true->∀(k:Nat) e d,l[k]?=some e->e.nw=some d->gP d st.sl=true:=by
   intro l
   induction l with
   |nil=>intro _ k e d h;simp at h
   |cons n l j=>
    intro g k e d c i;simp only[nD,aiI]at g;cases k with
    |zero=>simp at c;subst c;simpa [i] using g.1
    |succ k=>simp at c;exact j g.2 k e d c i
  exact this a Ti
 intro x G q;refine wp_region_any hm ?_;have d5:∀(i:Nat) (c:Array Bool) (g:Act) (w:World),c.size=ops.length->n7 ops.length (λk=>c.getD k false)=i->
   (∀j b,c.getD j false=true->(jk ops)[j]?=some b->∀i∈b,c.getD i false=true)->
   Inv X (S st a (λk=>c.getD k false) ops.length) g w->
   wpAny X.P .any ops.toArray (λe c g=>∃a,post e a/\Inv X a c g) i c g w:=by
  intro F
  induction F with
  |zero=>
   intro c x G p l r o;have g:=rF l;refine⟨?_,J,PB,?_⟩
   .unfold Region.ready;rw[List.filter_eq_nil_iff];intro i q;simp at q;have j:=g i q;have k:i<c.size:=by omega
    simp[k]at j;simp[k,j]
   .have e:S st a (λk=>c.getD k false) ops.length=J:=by
     rw[PW];have:∀n,n<=ops.length->S st a (λk=>c.getD k false) n=S st a (λ_=>true) n:=by
      intro n
      induction n with
      |zero=>intro _;rfl
      |succ n i=>
       intro j;simp only[S,i (by omega),g n (by omega)]
     exact this _ (ah9 _)
    rw[<-e];exact o
  |succ F ih=>
   intro c x G Ok y z d6;have am:∀i,i∈Region.ready .any ops.toArray c↔i<ops.length/\c.getD i true=false/\∃o,ops[i]?=some o/\∀e∈o.after.toList,Region.binds .any e=true->c.getD e.on false=true:=by
    intro i;unfold Region.ready;rw[akv];simp only[ajI,akH,aiI,ajp,ajx];constructor
    .rintro⟨g,p,l⟩;refine⟨g,p,ops[i],by simp[g],?_⟩;simp[g]at l;intro e o k;have s:e∈ops[i].after:=by simpa using o
     obtain⟨n,r,rfl⟩:=ak5.1 s;rcases l n r with j|j
     .rw[j]at k;cases k
     .simpa using j
    .rintro⟨g,k,o,l,p⟩;refine⟨g,k,?_⟩;have:ops[i]=o:=by simpa [g] using l
     simp[g,this];intro n r;cases j:Region.binds .any o.after[n]with
     |false=>exact .inl rfl
     |true=>right;simpa using p o.after[n] (by simp) j
   refine⟨?_,?_⟩
   .intro o;obtain⟨i,g,j,n⟩:=tT (m:=ops.length) (f:= λk=>c.getD k false) (by omega);have:i∈Region.ready .any ops.toArray c:=by
     rw[am];have p:i<c.size:=by omega
     refine⟨g,by simp[p]at j⊢;exact j,ops[i],by simp[g],?_⟩;intro e k l;have:=hE i ops[i] (by simp[g]) e k l;exact n e.on (by omega)
    rw[o]at this;cases this
   .intro i RK;obtain⟨r,V,o,l,Tj⟩:=(am i).1 RK;have U:i<c.size:=by omega
    have j:c.getD i false=false:=by simp[U]at V⊢;exact V
    have Re:i<a.length:=by omega
    obtain⟨e,k⟩:∃e,a[i]?=some e:=⟨a[i],by simp[Re]⟩;have Pk:i<(jk ops).length:=by rw[mP];exact r
    obtain⟨N,s⟩:∃b,(jk ops)[i]?=some b:=⟨(jk ops)[i],by simp[Pk]⟩;have ac:∀k,k∈N->c.getD k false=true:=by
     intro t w;obtain⟨L,A,E,g⟩:=Aj l s w;have n:=Tj L A E;rcases g with g|⟨Q,Y,_,h6⟩
     .rw[<-g];exact n
     .exact z _ Q n Y t h6
    have P:∀(k:Nat) f,k<i->a[k]?=some f->∀x,ops[k]?=some x->fT ops.toArray x o f e=true->c.getD k false=true:=by
     intro g f t w n A y;have:=(K g i n f o e N t A w l k s).1 y;simp at this;exact ac g this
    have p:∀(k:Nat) f,i<k->a[k]?=some f->∀x,ops[k]?=some x->fT ops.toArray o x e f=true->c.getD k false=false:=by
     intro g f A t w L y;obtain⟨_,b,_,n,_,_⟩:=u g f t;have:=(K i g o e w f b A l k L t n).1 y;simp at this;cases E:c.getD g false with
     |false=>rfl
     |true=>rw[z g b E n i this]at j;cases j
    obtain⟨Z,Z8⟩:=T i o e l k;have YQ:(a.take i).foldl (λs e=>e.app s) st=S st a (λ_=>true) i:=(jn st a i).symm;rw[YQ]at Z;have B:∀t k,(kz a t).W k=true->∃f x,a[k]?=some f/\ops[k]?=some x/\f.d=some t/\x.dst=some t:=by
     intro Q w g;simp only[kz]at g;split at g
     .rename_i f t;split at g
      .rename_i d n;have:=aiw g;subst this;obtain⟨A,b,E,_,L,_⟩:=u w f t;exact⟨f,A,t,E,n,by rw[<-L];exact n⟩
      .cases g
     .cases g
    have C:∀t k,(mh a t).W k=true->∃f x,a[k]?=some f/\ops[k]?=some x/\t∈f.wb.map (·.1):=by
     intro E t g;simp only[mh]at g;split at g
     .rename_i f n;obtain⟨w,b,A,_,_,_⟩:=u t f n;exact⟨f,w,n,A,jm.1 g⟩
     .cases g
    have D:∀k,(kA a).W k=true->∃f x,a[k]?=some f/\ops[k]?=some x/\f.wh.isSome=true:=by
     intro t g;simp only[kA]at g;split at g
     .rename_i f n;obtain⟨w,b,A,_,_,_⟩:=u t f n;exact⟨f,w,n,A,g⟩
     .cases g
    have O:∀(l:List (Nat×List M)) (r:List Nat) (t:Nat),t∈l.map (·.1)->t∈r->(l.any λp=>has r p.1)=true:=by
     intro A L E n t;rw[ajr];obtain⟨g,w,rfl⟩:=aij.1 n;exact⟨g,w,jm.2 t⟩
    have Vz:Ag ops.toArray o e (S st a (λ_=>true) i) (S st a (λk=>c.getD k false) ops.length):=by
     refine⟨?_,?_,?_,?_⟩
     .intro t n;refine oW (kz a t) _ i ops.length (by omega) ?_ ?_
      .intro g A Q;obtain⟨f,w,E,L,_,Y⟩:=B t g Q;refine P g f A E w L ?_;have:has (slotsOf ops.toArray o) t=true:=jm.2 (by simp[slotsOf,n]);simp[fT,Y,this]
      .intro g hk NM L;by_cases Y:g=i
       .rw[Y];exact j
       .obtain⟨f,w,A,E,_,Q⟩:=B t g L;refine p g f (by omega) A w E ?_;have:has (slotsOf ops.toArray o) t=true:=jm.2 (by simp[slotsOf,n]);simp[fT,Q,this]
     .intro t n;refine oW (mh a t) _ i ops.length (by omega) ?_ ?_
      .intro g A Q;obtain⟨f,w,E,L,Y⟩:=C t g Q;refine P g f A E w L ?_;have:=O f.wb _ t Y n;simp[fT,this]
      .intro g hk NM L;by_cases Q:g=i
       .rw[Q];exact j
       .obtain⟨f,w,A,E,Y⟩:=C t g L;refine p g f (by omega) A w E ?_;have:=O f.wb _ t Y n;simp[fT,this]
     .intro g;refine oW (kA a) _ i ops.length (by omega) ?_ ?_
      .intro n w L;obtain⟨f,t,A,E,Q⟩:=D n L;refine P n f w A t E ?_;simp only[ajN]at g;rcases g with g|g<;>simp[fT,Q,g]
      .intro n Y NM E;by_cases L:n=i
       .rw[L];exact j
       .obtain⟨f,t,w,A,Q⟩:=D n E;refine p n f (by omega) w t A ?_;simp only[ajN]at g;rcases g with g|g<;>simp[fT,Q,g]
     .intro d L ce oo g;have co:∀n,n<=ops.length->get (S st a (λk=>c.getD k false) n).sl ce=some (.loc d oo)->False:=by
       intro n
       induction n with
       |zero=>
        intro _ g;exact xS (SR i e d k L) g
       |succ n E=>
        intro hn g;simp only[S]at g;cases w:a[n]? with
        |none=>simp only[w]at g;exact E (by omega) g
        |some f=>
         simp only[w]at g;cases t:c.getD n false with
         |false=>rw[t]at g;exact E (by omega) g
         |true=>
          rw[t]at g;simp only[aiP,Ef.app]at g;obtain⟨Q,b,Y,hb,Qw,_⟩:=u n f w;cases SQ:f.d with
          |none=>simp only[SQ]at g;exact E (by omega) g
          |some d'=>
           simp only[SQ]at g;rcases bL g with⟨_,A⟩|⟨_,A⟩
           .have M7:n≠i:=by rintro rfl;rw[t]at j;cases j
            rcases Nat.lt_or_gt_of_ne M7 with MY|VA
            .have:=(K n i Q f o e N MY Y w l k s).2;simp[xW,L,<-A]at this
            .have:=p n f VA w Q Y (by simp[fT,L,<-A]);rw[this]at t;cases t
           .exact E (by omega) A
      exact co _ (ah9 _) g
    have TM:=Z _ Vz (xZ I Uz (λg f h t n E=>(YP.mem g f t h E).resolve_right λA=>by
     have L:g≠i:=by rintro rfl;rw[j]at n;cases n
     obtain⟨b,w,s⟩:=wl A i r (ajs L);have:=z g b n w i s;rw[j]at this;cases this) _)
    have UB:∀g j,Inv X (e.app (S st a (λk=>c.getD k false) ops.length)) g j->wpAny X.P .any ops.toArray (λe g j=>∃a,post e a/\Inv X a g j) F (c.setIfInBounds i true) g j:=by
     intro a' w' O_;have w:(λk=>(c.setIfInBounds i true).getD k false)= λg=>if g=i then true else c.getD g false:=by
      funext g
      by_cases n:g=i
      .subst n;simp[U]
      .simp[n,aiT (ajs n)]
     refine ih _ a' w' (by simp[Ok]) ?_ ?_ ?_
     .rw[w];have:=xY (m:=ops.length) (f:= λk=>c.getD k false) r j;omega
     .intro n b hj t g A;have L:(if n=i then true else c.getD n false)=true:=by rw[<-alf w n];exact hj
      have Q:(if g=i then true else c.getD g false)=true:=by
       by_cases E:g=i
       .simp[E]
       .rw[aid E];by_cases Y:n=i
        .subst Y;rw[s]at t;injection t with t;subst t
         exact ac g A
        .rw[aid Y]at L;exact z n b L t g A
      rw[<-alf w g]at Q;exact Q
     .rw[w];have g1:∀t,get (S st a (λk=>if k=i then true else c.getD k false) ops.length).sl t=get (e.app (S st a (λk=>c.getD k false) ops.length)).sl t:=by
       intro t;refine ve (kz a t) _ i ops.length r e k j ?_;intro R5 n E NM Ql;obtain⟨f,A,L,Q,_,Y⟩:=B t n Ql;obtain⟨f',x',Qg,g,_,VC⟩:=B t i R5;rw[l]at g;injection g with g;subst g
       refine p n f E L A Q ?_;have:has (slotsOf ops.toArray o) t=true:=jm.2 (by simp[slotsOf,VC]);simp[fT,Y,this]
      have g2:∀t,get (S st a (λk=>if k=i then true else c.getD k false) ops.length).bx t=get (e.app (S st a (λk=>c.getD k false) ops.length)).bx t:=by
       intro t;refine ve (mh a t) _ i ops.length r e k j ?_;intro R5 n E NM Ql;obtain⟨f,A,L,Q,Y⟩:=C t n Ql;obtain⟨f',x',g,Ph,VD⟩:=C t i R5;rw[k]at g;injection g with g;subst g
       refine p n f E L A Q ?_;have:=O f.wb (e.rb++e.wb.map (·.1)) t Y (ain.2 (.inr VD));simp[fT,this]
      have g3:(S st a (λk=>if k=i then true else c.getD k false) ops.length).H=(e.app (S st a (λk=>c.getD k false) ops.length)).H:=by
       refine ve (kA a) _ i ops.length r e k j ?_;intro Y n A NM Ql;obtain⟨f,t,E,L,Q⟩:=D n Ql;obtain⟨f',x',g,Ph,VE⟩:=D i Y;rw[k]at g;injection g with g;subst g
       refine p n f A E t L ?_;simp[fT,Q,VE]
      have:=Inv.gL (X:=X) (sl:=(e.app (S st a (λk=>c.getD k false) ops.length)).sl) (bx:=(e.app (S st a (λk=>c.getD k false) ops.length)).bx) (H:=(e.app (S st a (λk=>c.getD k false) ops.length)).H)
       (M8:=(S st a (λk=>if k=i then true else c.getD k false) ops.length).sl) (Ns:=(S st a (λk=>if k=i then true else c.getD k false) ops.length).bx) O_
       (λt v a=>by rw[<-g1];exact a) g2
      rw[<-g3]at this;exact this
    have:=TM x G d6 (wpAny X.P .any ops.toArray (λe c g=>∃a,post e a/\Inv X a c g) F (c.setIfInBounds i true)) (λe c g=>∃a,post e a/\Inv X a c g) UB;unfold wpOp;have VF:ops.toArray[i]?=some o:=by simpa using l
    simp only[VF];split
    .rename_i g;rw[air g]at this;exact .inl this
    .rename_i g;rw[aid g]at this;exact this
 refine d5 _ _ x _ (by simp) ?_ ?_ ?_
 .have:∀n,n7 n (λk=>(Array.replicate ops.toArray.size false).getD k false)=n:=by
   intro n
   induction n with
   |zero=>rfl
   |succ n c=>
    simp only[n7,c];have:(Array.replicate ops.toArray.size false).getD n false=false:=by simp[ajh];split<;>rfl
    rw[this];rfl
  simpa using this ops.length
 .intro j b c;have:(Array.replicate ops.toArray.size false).getD j false=false:=by simp[ajh];split<;>rfl
  rw[this]at c;cases c
 .have g:∀n,S st a (λk=>(Array.replicate ops.toArray.size false).getD k false) n=st:=by
   intro n
   induction n with
   |zero=>rfl
   |succ n c=>
    have:(Array.replicate ops.toArray.size false).getD n false=false:=by simp[ajh];split<;>rfl
    simp only[S,c,this];cases a[n]?<;>rfl
  rw[g];obtain⟨c,i,rfl,q⟩:=q;exact⟨{c with w:={c.w with drawn:=c.w.drawn+1} },i,rfl,q.ext (fW.drew _)⟩
def Ai.fi{ops:Array Oper}(h:Ai X ops l st es M2):qC X I ops l st es M2:=by
 induction h with
 |nil st=>exact .nil st
 |cons h a k b=>exact .cons (λa b _=>h a b) a b
def lX.all:∀{es:List Ef} {n:Nat},(∀e∈es,∀h,e.wh=some h->I h)->lX I ops n es
 |[],_,_=>trivial
 |e::r,n,h=>⟨by split;trivial;rename_i a;exact .inl (h e ajf _ a),lX.all λf a=>h f (ajb _ a)⟩
def OP(a:X.P.follows .mixedOrders=true)
  (h:TF X ops.toArray ops st λa b=>kU ops st.sl a=true/\post .normal b):TC X (.region id ops.toArray true) st post:=by
 obtain⟨b,c,d,e,f⟩:=h;exact TC.HI (λ_=>True) trivial a ⟨b,c,d.fi,e,.all λ_ _ _ _=>trivial,f⟩
end Go.Mt
