/- A part of the proof of the last text of this claim, without conditions. -/
import Derived.Tactics
import Derived.Orders
import Derived.Deep.LoopGhost
import Derived.Below
import Derived.WalkKit
set_option maxRecDepth 4000
set_option linter.all false
namespace Go
def W.{u}{α:Sort u}{a:α}:a=a:=rfl
abbrev asj:=@Nat.le_refl
abbrev asl:=@List.getElem?_append_left
abbrev asm:=@Int.natCast_nonneg
abbrev asn:=@List.mem_of_getElem?
abbrev aso:=@List.getElem?_eq_getElem
abbrev asp:=@Nat.lt_or_ge
abbrev asq:=@List.length_append
abbrev asr:=@List.getElem?_eq_none
abbrev ass:=@List.getElem?_append_right
abbrev ast:=@List.mem_append
abbrev asu:=@if_neg
abbrev asv:=@List.getElem?_set_ne
abbrev asw:=@List.mem_append_left
abbrev asx:=@List.mem_singleton
abbrev asy:=@Nat.eq_of_beq_eq_true
abbrev asz:=@List.mem_append_right
abbrev asA:=@List.take_succ_eq_append_getElem
abbrev asB:=@if_pos
abbrev asC:=@of_decide_eq_true
abbrev asD:=@List.length_map
abbrev asE:=@List.getElem_mem
abbrev asF:=@List.getElem?_map
abbrev asG:=@of_decide_eq_false
abbrev asH:=@Bool.and_eq_true
abbrev asI:=@List.mem_cons_of_mem
abbrev asJ:=@List.mem_iff_getElem?
abbrev asK:=@List.mem_map
abbrev asL:=@List.append_nil
abbrev asM:=@List.append_assoc
abbrev asN:=@List.map_append
abbrev asO:=@List.length_cons
abbrev asP:=@decide_eq_true
abbrev asQ:=@List.mem_cons
abbrev asR:=@Nat.eq_zero_or_pos
abbrev asS:=@List.length_singleton
abbrev asT:=@List.map_cons
abbrev asU:=@List.take_length
abbrev asV:=@List.mem_cons_self
abbrev asW:=@List.nil_append
abbrev asX:=@decide_eq_false
abbrev asY:=@beq_eq_false_iff_ne
abbrev asZ:=@Array.getElem?_eq_none
abbrev as0:=@Option.map_eq_some_iff
abbrev as1:=@List.mem_map_of_mem
abbrev as2:=@Nat.zero_le
abbrev as3:=@cond_true
abbrev as4:=@List.findIdx?_eq_some_iff_getElem
abbrev as5:=@Nat.mul_le_mul_right
abbrev as6:=@List.map_congr_left
abbrev as7:=@List.getElem?_set_self
abbrev as8:=@Nat.lt_succ_iff_lt_or_eq
abbrev as9:=@List.take_append_drop
abbrev ata:=@Nat.le_trans
abbrev atb:=@List.eq_nil_of_length_eq_zero
abbrev atc:=@Nat.le_of_ble_eq_true
abbrev atd:=@Nat.add_assoc
abbrev ate:=@Classical.byContradiction
abbrev atf:=@Ne.symm
abbrev atg:=@List.length_nil
abbrev ath:=@List.take_of_length_le
abbrev ati:=@List.nodup_append
abbrev atj:=@Array.getElem?_setIfInBounds_ne
abbrev atk:=@List.drop_eq_getElem_cons
abbrev atl:=@Nat.ble_eq_true_of_le
abbrev atm:=@Nat.lt_of_lt_of_le
abbrev atn:=@Iff.rfl
abbrev ato:=@Prod.mk.inj
abbrev atp:=@List.cons_append
abbrev atq:=@Nat.add_sub_cancel_left
abbrev atr:=@Bool.not_eq_true
abbrev ats:=@Bool.not_eq_true'
abbrev att:=@List.set_append_right
abbrev atu:=@List.map_nil
abbrev atv:=@Nat.eq_of_mul_eq_mul_right
abbrev atw:=@List.mem_singleton_self
abbrev atx:=@Option.some.injEq
abbrev aty:=@List.foldl_cons
abbrev atz:=@Nat.lt_trichotomy
abbrev atA:=@List.getElem?_concat_length
abbrev atB:=@congrArg
abbrev atC:=@List.all_eq_true
abbrev atD:=@Nat.pow_succ
abbrev atE:=@List.findIdx?_eq_none_iff
abbrev atF:=@Array.getElem?_replicate
abbrev atG:=@Int.ofNat_lt
abbrev atH:=@Nat.zero_add
abbrev atI:=@Array.getElem?_extract
abbrev atJ:=@Array.getElem?_append_left
abbrev atK:=@List.getD_eq_getElem?_getD
abbrev atL:=@List.flatten_append
abbrev atM:=@List.length_replicate
abbrev atN:=@List.length_filter_le
abbrev atO:=@Classical.choose_spec
abbrev atP:=@List.length_take
abbrev atQ:=@List.drop_length
abbrev atS:=@List.not_mem_nil
abbrev atT:=@Nat.succ_mul
abbrev atU:=@Nat.le_mul_of_pos_right
abbrev atV:=@cond_false
abbrev atW:=@List.mem_range
abbrev atX:=@List.ext_getElem?
abbrev atY:=@Nat.mod_lt
abbrev atZ:=@List.take_succ_cons
abbrev at0:=@Nat.le_add_right
abbrev at1:=@List.filter_cons_of_pos
abbrev at2:=@List.filter_cons_of_neg
abbrev at3:=@Nat.add_mul
abbrev at4:=@Nat.mul_add
abbrev at5:=@List.getElem?_drop
abbrev at6:=@List.getElem?_take
abbrev at7:=@Bool.false_eq_true
abbrev at8:=@Bool.or_eq_true
abbrev at9:=@Array.getElem?_append_right
abbrev aua:=@List.mem_of_mem_take
abbrev aub:=@beq_iff_eq
abbrev auc:=@List.any_eq_true
abbrev aud:=@List.map_toArray
abbrev aue:=@Array.getElem?_push
abbrev auf:=@Nat.add_lt_add_left
abbrev aug:=@List.getElem?_take_of_lt
abbrev auh:=@List.getElem_append_left
abbrev aui:=@Option.isSome_iff_exists
abbrev auj:=@Nat.min_eq_left
abbrev auk:=@Option.map_some
abbrev aul:=@Nat.mul_eq_zero
abbrev aum:=@List.mem_filter
abbrev aun:=@Array.ext_getElem?
abbrev auo:=@Array.getElem?_setIfInBounds_self
abbrev aup:=@if_false
abbrev auq:=@Nat.add_zero
abbrev aur:=@Nat.sub_self
abbrev aus:=@List.nodup_nil
abbrev aut:=@List.getElem?_inj
abbrev auu:=@List.findIdx?_map
abbrev auv:=@Array.getElem?_modify
abbrev auw:=@List.sizeOf_lt_of_mem
abbrev auy:=@ByteArray.data_append
abbrev auz:=@if_true
abbrev auA:=@List.map_take
abbrev auB:=@List.drop_append_of_le_length
abbrev auD:=@Bool.eq_iff_iff
abbrev auE:=@List.length_pos_iff
abbrev auF:=@Array.toList_append
abbrev auG:=@Nat.mul_le_mul_left
abbrev auH:=@Nat.beq_refl
abbrev auI:=@List.mapM_cons
abbrev auJ:=@Array.mapM_eq_mapM_toList
abbrev auK:=@List.getElem_append_right
abbrev auL:=@List.mem_of_find?_eq_some
abbrev auM:=@List.foldl_append
abbrev auN:=@Array.size_append
abbrev auO:=@Option.bind_some
abbrev auP:=@Nat.mod_eq_of_lt
abbrev auQ:=@List.getElem?_replicate
abbrev auR:=@Nat.lt_of_not_le
abbrev auS:=@Int.eq_ofNat_of_zero_le
abbrev auT:=@Nat.min_eq_right
abbrev auU:=@List.drop_eq_nil_of_le
abbrev auV:=@List.filter_eq_nil_iff
abbrev auW:=@dif_pos
abbrev auX:=@Nat.mul_zero
abbrev auY:=@Array.map_empty
abbrev auZ:=@List.foldr_cons
abbrev au0:=@Array.getElem?_append
abbrev au1:=@List.getElem?_toArray
abbrev au2:=@Array.mem_iff_getElem
abbrev au3:=@List.eq_nil_or_concat
abbrev au4:=@Int.le_refl
abbrev au5:=@List.take_succ
abbrev au6:=@List.take_take
abbrev au7:=@dif_neg
abbrev au8:=@Bool.and_self
abbrev au9:=@Nat.mul_assoc
abbrev ava:=@Nat.mul_comm
abbrev avb:=@List.all_map
abbrev avc:=@Nat.le_of_lt
abbrev avd:=@Classical.em
abbrev ave:=@or_false
abbrev avf:=@List.map_map
end Go
namespace Go.Mt
inductive D where
 |int (k:IntKind) (n:Int)
 |bool (b:Bool)
 |str (s:ByteArray)
 |sl (rows:List (List D))
 |pD
 |agg (cs:List D)
 |aZ (cs:List D) (off:Nat)
 |fn (f:Nat) (cap:List D)
 |bU|qn|xT|oU
 |Hb (t:Nat) (d:D)
 deriving Inhabited
inductive M where
 |d (x:D)
 |ref (i off:Nat)
 |bC (i aK len:Nat)
 |et (i aK off:Nat)
 |mp (i:Nat)
 |it (i:Nat)
 |agg (cs:List M)
 |fn (f:Nat) (cap:List M)
 |di (vs:List M)
 |undef
 deriving Inhabited
inductive V where
 |m (x:M)
 |loc (t off:Nat)
 |tl (j aK off len:Nat)
 deriving Inhabited
inductive Ob where
 |box (cs:List M)
 |row (acc:Bool) (ec aK:Nat) (cs:List M)
 |map (es:List (D×M))
 |iter (x:M)
 |dead
 |free
 deriving Inhabited
abbrev Hp:=List Ob
def get{a:Type} :List (Nat×a)->Nat->Option a
 |[],_=>none
 |(k,v)::r,t=>bif Nat.beq k t then some v else get r t
def del{a:Type} :List (Nat×a)->Nat->List (Nat×a)
 |[],_=>[]
 |(k,v)::r,t=>bif Nat.beq k t then del r t else(k,v)::del r t
structure St where
 sl:List (Nat×V)
 bx:List (Nat×List M)
 H:Hp
def uw(P:Program)(t:Nat):Option Bool:=
 match P.underlying t with
 |some (.struct _)=>some true
 |some (.array _ _)=>some true
 |some _=>some false
 |none=>none
def fT(P:Program)(t:Nat):Option Nat:=(P.info? t).map (·.size)
def u9(P:Program)(t:Nat):Option Nat:=(P.info? t).map (·.bytes)
def qo:Value->Option D
 |.int k n=>some (.int k n)
 |.bool b=>some (.bool b)
 |.string s=>some (.str s)
 |.slice none 0 0=>some (.sl [])
 |.pointer none=>some .bU
 |.nilFunc=>some .qn
 |.nilIface=>some .xT
 |.map none=>some .oU
 |_=>none
def lN:List Value->Option (List D)
 |[]=>some []
 |v::r=>match qo v,lN r with
  |some d,some a=>some (d::a)
  |_,_=>none
def qW:Value->Option D
 |.agg a=>match lN a.toList with
  |some a=>some (.agg a)
  |none=>none
 |v=>qo v
def tK(P:Program)(t:Nat):Option D:=
 match P.info? t with
 |some i=>match i.zero with
  |some v=>qW v
  |none=>none
 |none=>none
def bh(sl:List (Nat×V)):Operand->Option V
 |.tmp t=>get sl t
 |.const v=>match qW v with
  |some d=>some (.m (.d d))
  |none=>none
 |.func f=>some (.m (.d (.fn f [])))
 |.global _=>none
def St.ev(s:St)(x:Operand):Option V:=bh s.sl x
def bg:D->List D
 |.agg a=>a
 |d=>[d]
def cellsOf:M->List M
 |.d x=>(bg x).map .d
 |.agg a=>a
 |m=>[m]
def kP:List M->Option (List D)
 |[]=>some []
 |.d x::r=>(kP r).map (x:: ·)
 |_=>none
def pack(cs:List M):M:=
 match kP cs with
 |some a=>.d (.agg a)
 |none=>.agg cs
def gS(P:Program)(t:Nat)(cs:List M)(off:Nat):Option M:=
 match uw P t,fT P t with
 |some true,some n=>bif Nat.ble (off+n) cs.length then some (pack ((cs.drop off).take n))else none
 |some false,_=>cs[off]?
 |_,_=>none
def sy(P:Program)(t:Nat)(cs:List D)(off:Nat):Option D:=
 match uw P t,fT P t with
 |some true,some n=>bif Nat.ble (off+n) cs.length then some (.agg ((cs.drop off).take n))else none
 |some false,_=>cs[off]?
 |_,_=>none
def dV(cs:List M)(off:Nat)(a:List M):Option (List M):=
 bif Nat.ble (off+a.length) cs.length then some (cs.take off++a++cs.drop (off+a.length))else none
def chunk(ec:Nat):Nat->List M->Option (List (List D))
 |0,[]=>some []
 |0,_=>none
 |n+1,a=>match kP (a.take ec),chunk ec n (a.drop ec)with
  |some r,some a=>some (r::a)
  |_,_=>none
def flat:Value->Bool
 |.agg _=>false
 |.tuple _=>false
 |_=>true
variable{v:Value}
abbrev dZ(w:World)(b o:Nat):Option Value:=w.cell? ⟨b,o,none⟩
inductive gL(O:Nat->Nat->Prop)(w:World):D->Value->Prop where
 |int (k:IntKind) (n:Int):gL O w (.int k n) (.int k n)
 |bool (b:Bool):gL O w (.bool b) (.bool b)
 |str (s:ByteArray):gL O w (.str s) (.string s)
 |slnil (a:Option Addr):gL O w (.sl []) (.slice a 0 0)
 |sl (a:List (List D)) (b o e c:Nat) (val:Nat->Nat->Value) (f:a≠[]) (g:a.length<=e) (h:a.length<=140737488355328)
   (R1:∀r∈a,r.length=c)
   (O0:∀i j,i<a.length->j<c->dZ w b (o+(i*c+j))=some (val i j)/\¬O b (o+(i*c+j)))
   (PS:∀i j,i<a.length->j<c->flat (val i j)=true)
   (PU:∀i j r d,a[i]?=some r->r[j]?=some d->gL O w d (val i j)):
   gL O w (.sl a) (.slice (some ⟨b,o,none⟩) a.length e)
 |pD (a:Option Addr) (c:Nat):gL O w .pD (.slice a 0 c)
 |agg (c:List D) (a:Array Value) (e:a.size=c.length) (f:∀(i:Nat) (v:Value),a[i]?=some v->flat v=true) (h:∀(i:Nat) (d:D) (v:Value),c[i]?=some d->a[i]?=some v->gL O w d v):gL O w (.agg c) (.agg a)
 |aZ (a:List D) (c b o:Nat) (val:Nat->Value)
   (O0:∀i,i<a.length->dZ w b (o+i)=some (val i)/\¬O b (o+i))
   (PS:∀i,i<a.length->flat (val i)=true)
   (PU:∀i d,a[i]?=some d->gL O w d (val i)):gL O w (.aZ a c) (.pointer (some ⟨b,o+c,none⟩))
 |fn (f:Nat) (a:List D) (c:Array Value) (e:c.size=a.length) (h:∀(i:Nat) (d:D) (v:Value),a[i]?=some d->c[i]?=some v->gL O w d v):gL O w (.fn f a) (.func (.func f) #[] c)
 |bU:gL O w .bU (.pointer none)
 |qn:gL O w .qn .nilFunc
 |xT:gL O w .xT .nilIface
 |oU:gL O w .oU (.map none)
 |Hb (t:Nat) (d:D) (v:Value) (h:gL O w d v):gL O w (.Hb t d) (.iface t v)
def gL.mono{O a:Nat->Nat->Prop}{w w':World}(c:∀b o v,dZ w b o=some v->¬O b o->dZ w' b o=some v/\¬a b o)
  {d:D} (h:gL O w d v):gL a w' d v:=by
 induction h with
 |int k n=>exact .int k n
 |bool b=>exact .bool b
 |str s=>exact .str s
 |slnil e=>exact .slnil e
 |sl p b o n f val g i j k e l q m=>
  exact .sl p b o n f val g i j k (λi j a f=>c _ _ _ (e i j a f).1 (e i j a f).2) l m
 |pD e f=>exact .pD e f
 |agg f g i j h e=>exact .agg f g i j e
 |aZ i j b o val e f k g=>exact .aZ i j b o val (λi a=>c _ _ _ (e i a).1 (e i a).2) f g
 |fn f g i j h e=>exact .fn f g i j e
 |bU=>exact .bU
 |qn=>exact .qn
 |xT=>exact .xT
 |oU=>exact .oU
 |Hb t d v h e=>exact .Hb t d v e
structure Sg where
 w:World
 O:Nat->Nat->Prop
 l:Nat->Nat
 H:Hp
variable{σ τ:Sg}
inductive RM(σ:Sg):M->Value->Prop where
 |d {x:D} {v:Value} (h:gL σ.O σ.w x v):RM σ (.d x) v
 |ref (i a:Nat) (c:List M) (h:σ.H[i]?=some (.box c)):RM σ (.ref i a) (.pointer (some ⟨σ.l i,a,none⟩))
 |bC (i a e:Nat) (f:Option Addr) (h:Nat)
   (hle:σ.H[i]?=some .dead\/∃g f c e,σ.H[i]?=some (.row g f c e)/\a<=c)
   (P4:∀j c g,σ.H[i]?=some (.row j c a g)->f=some ⟨σ.l i,0,none⟩/\g.length=e*c/\∃a T,σ.w.heap[σ.l i]?=some (.cells a T (0,0))/\a.size=h*c):
   RM σ (.bC i a e) (.slice f e h)
 |et (i a c b:Nat)
   (hle:σ.H[i]?=some .dead\/∃g f c e,σ.H[i]?=some (.row g f c e)/\a<=c)
   (P4:∀f e c,σ.H[i]?=some (.row f e a c)->b=σ.l i):RM σ (.et i a c) (.pointer (some ⟨b,c,none⟩))
 |mp (i:Nat) (a:List (D×M)) (h:σ.H[i]?=some (.map a)):RM σ (.mp i) (.map (some (σ.l i)))
 |it (i:Nat) (x:M) (h:σ.H[i]?=some (.iter x)):RM σ (.it i) (.pointer (some ⟨σ.l i,0,none⟩))
 |agg (c:List M) (a:Array Value) (e:a.size=c.length) (f:∀(i:Nat) (v:Value),a[i]?=some v->flat v=true) (h:∀(i:Nat) (m:M) (v:Value),c[i]?=some m->a[i]?=some v->RM σ m v):RM σ (.agg c) (.agg a)
 |fn (f:Nat) (a:List M) (c:Array Value) (e:c.size=a.length) (h:∀(i:Nat) (m:M) (v:Value),a[i]?=some m->c[i]?=some v->RM σ m v):RM σ (.fn f a) (.func (.func f) #[] c)
 |di (a:List M) (c:Array Value) (e:c.size=a.length) (h:∀(i:Nat) (m:M) (v:Value),a[i]?=some m->c[i]?=some v->RM σ m v):RM σ (.di a) (.tuple c)
 |undef (v:Value):RM σ .undef v
structure dI(σ τ:Sg):Prop where
 cell:∀b o v,dZ σ.w b o=some v->¬σ.O b o->dZ τ.w b o=some v/\¬τ.O b o
 box:∀(i:Nat) cs,σ.H[i]?=some (.box cs)->(∃OS,τ.H[i]?=some (.box OS))/\τ.l i=σ.l i
 map:∀(i:Nat) es,σ.H[i]?=some (.map es)->(∃a,τ.H[i]?=some (.map a))/\τ.l i=σ.l i
 iter:∀(i:Nat) x,σ.H[i]?=some (.iter x)->(∃a,τ.H[i]?=some (.iter a))/\τ.l i=σ.l i
 dead:∀i:Nat,σ.H[i]?=some .dead->τ.H[i]?=some .dead
 row:∀(i:Nat) acc ec aK cs,σ.H[i]?=some (.row acc ec aK cs)->τ.H[i]?=some .dead\/∃c a OS,τ.H[i]?=some (.row c ec a OS)/\aK<=a/\
  (a=aK->τ.l i=σ.l i/\OS.length=cs.length/\∀a T,σ.w.heap[σ.l i]?=some (.cells a T (0,0))->∃c,τ.w.heap[σ.l i]?=some (.cells c T (0,0))/\c.size=a.size)
 free:∀i:Nat,σ.H[i]?=some .free->∃ob,τ.H[i]?=some ob
def dI.refl(σ:Sg):dI σ σ:=
 ⟨λ_ _ _ h a=>⟨h,a⟩,λ_ a h=>⟨⟨a,h⟩,rfl⟩,λ_ a h=>⟨⟨a,h⟩,rfl⟩,λ_ x h=>⟨⟨x,h⟩,rfl⟩,λ_ h=>h,
 λ_ c a b a h=>.inr ⟨c,b,a,h,asj _,λ_=>⟨rfl,rfl,λa T h=>⟨a,h,rfl⟩⟩⟩,λ_ h=>⟨_,h⟩⟩
def dI.has(h:dI σ τ)(i:Nat)(ob:Ob)(hi:σ.H[i]?=some ob):∃PA,τ.H[i]?=some PA:=by
 cases ob with
 |box b=>obtain⟨⟨c,a⟩,_⟩:=h.box i b hi;exact⟨_,a⟩
 |map b=>obtain⟨⟨c,a⟩,_⟩:=h.map i b hi;exact⟨_,a⟩
 |iter b=>obtain⟨⟨c,a⟩,_⟩:=h.iter i b hi;exact⟨_,a⟩
 |dead=>exact⟨_,h.dead i hi⟩
 |free=>exact h.free i hi
 |row e c d b=>
  rcases h.row i e c d b hi with a|⟨_,_,_,a,_⟩
  .exact⟨_,a⟩
  .exact⟨_,a⟩
def dI.trans{f:Sg}(h:dI σ τ)(k:dI τ f):dI σ f:=by
 refine⟨?_,?_,?_,?_,?_,?_,λi a=>let⟨p,c⟩:=h.free i a;k.has i p c⟩
 .intro b o v a c;obtain⟨d,e⟩:=h.cell b o v a c;exact k.cell b o v d e
 .intro i g a;obtain⟨⟨j,d⟩,e⟩:=h.box i g a;obtain⟨l,m⟩:=k.box i j d;exact⟨l,m.trans e⟩
 .intro i g a;obtain⟨⟨j,d⟩,e⟩:=h.map i g a;obtain⟨l,m⟩:=k.map i j d;exact⟨l,m.trans e⟩
 .intro i g a;obtain⟨⟨j,d⟩,e⟩:=h.iter i g a;obtain⟨l,m⟩:=k.iter i j d;exact⟨l,m.trans e⟩
 .exactλi a=>k.dead i (h.dead i a)
 .intro i N g j o a;rcases h.row i N g j o a with c|⟨r,d,q,c,s,t⟩
  .exact .inl (k.dead i c)
  .rcases k.row i r g d q c with e|⟨u,l,w,e,x,y⟩
   .exact .inl e
   .refine .inr ⟨u,l,w,e,ata s x,λO=>?_⟩;have z:d=j:=by omega
    have A:l=d:=by omega
    obtain⟨m,B,C⟩:=t z;obtain⟨D,E,n⟩:=y A;refine⟨D.trans m,E.trans B,λF T G=>?_⟩;obtain⟨H,I,J⟩:=C F T G;rw[m]at n;obtain⟨K,L,M⟩:=n H T I;exact⟨K,L,M.trans J⟩
def RM.mono(k:dI σ τ){m:M}(h:RM σ m v):RM τ m v:=by
 have w:∀(i f:Nat),(σ.H[i]?=some .dead\/∃g c j a,σ.H[i]?=some (.row g c j a)/\f<=j)->
   (τ.H[i]?=some .dead\/∃g c j a,τ.H[i]?=some (.row g c j a)/\f<=j):=by
  intro i f h;rcases h with h|⟨g,c,j,a,n,o⟩
  .exact .inl (k.dead i h)
  .rcases k.row i g c j a n with l|⟨p,q,r,l,s,_⟩
   .exact .inl l
   .exact .inr ⟨p,c,q,r,l,ata o s⟩
 have x:∀(i f:Nat) g c a,(σ.H[i]?=some .dead\/∃g c j a,σ.H[i]?=some (.row g c j a)/\f<=j)->τ.H[i]?=some (.row g c f a)->
   ∃z p,σ.H[i]?=some (.row z c f p)/\τ.l i=σ.l i/\a.length=p.length/\∀q T,σ.w.heap[σ.l i]?=some (.cells q T (0,0))->∃r,τ.w.heap[σ.l i]?=some (.cells r T (0,0))/\r.size=q.size:=by
  intro i f g c a I l;rcases I with h|⟨s,J,t,u,o,K⟩
  .have:=k.dead i h;rw[this]at l;cases l
  .rcases k.row i s J t u o with n|⟨L,y,N,n,O,A⟩
   .rw[n]at l;cases l
   .rw[n]at l;injection l with l
    injection l with B C D E
    subst B;subst C;subst E;subst D;have e:t=y:=by omega
    subst e;obtain⟨F,G,H⟩:=A W;exact⟨s,u,o,F,G,H⟩
 induction h with
 |d h=>exact .d (h.mono k.cell)
 |ref i p a h=>
  obtain⟨⟨o,l⟩,n⟩:=k.box i a h;rw[<-n];exact .ref i p o l
 |bC i f H n I l A=>
  refine .bC i f H n I (w i f l) λg c a z=>?_
  obtain⟨s,t,o,p,q,r⟩:=x i f g c a l z;obtain⟨B,C,u,T,D,E⟩:=A s c t o;obtain⟨y,F,G⟩:=r u T D;rw[p];exact⟨B,q.trans C,y,T,F,G.trans E⟩
 |et i f t b l s=>
  refine .et i f t b (w i f l) λg c a r=>?_
  obtain⟨p,q,n,o,u,y⟩:=x i f g c a l r;rw[o];exact s p c q n
 |mp i o h=>
  obtain⟨⟨p,l⟩,n⟩:=k.map i o h;rw[<-n];exact .mp i p l
 |it i l h=>
  obtain⟨⟨p,n⟩,o⟩:=k.iter i l h;rw[<-o];exact .it i p n
 |agg a l n o h p=>exact .agg a l n o p
 |fn l a n o h p=>exact .fn l a n o p
 |di a l n h o=>exact .di a l n o
 |undef v=>exact .undef v
end Go.Mt
namespace Go.Mt
variable{σ τ:Sg}{id:Nat}{c:Code}
def u_(σ:Sg)(ms:List M)(a:Array Value):Prop:=
 a.size=ms.length/\∀(i:Nat) (m:M) (v:Value),ms[i]?=some m->a[i]?=some v->RM σ m v
def kV(σ:Sg)(ms:List M)(a:Array Value):Prop:=
 a.size=ms.length/\∀(i:Nat) (m:M) (v:Value),ms[i]?=some m->a[i]?=some v->RM σ m v/\flat v=true
def kV.mono(c:dI σ τ){ms:List M}{a:Array Value}(h:kV σ ms a):kV τ ms a:=
 ⟨h.1,λi m v a b=>⟨(h.2 i m v a b).1.mono c,(h.2 i m v a b).2⟩⟩
def Ob.live:Ob->Prop
 |.dead=>False
 |.free=>False
 |_=>True
variable{ob:Ob}
def Ob.jX:Ob->Nat->Prop
 |.box _,_=>True
 |.map _,_=>True
 |.iter _,_=>True
 |.row b _ _ a,o=>b=false\/a.length<=o
 |.dead,_=>False
 |.free,_=>False
def Ob.jI{o:Nat}(h:ob.jX o):ob.live:=by cases ob<;>first|trivial|exact h
def FY:D->Option Value
 |.str s=>some (.string s)
 |.int k n=>some (.int k n)
 |_=>none
def wj(σ:Sg)(e:D×M)(u:MapEntry):Prop:=(FY e.1=some u.key/\RM σ e.2 u.val)\/(e.1=.bU/\RM σ e.2 (.tuple #[u.key,u.val]))
def wj.up{e:D×M}{m:M}{u:MapEntry}(h:wj σ e u)(c:∀v,RM σ e.2 v->RM τ m v):wj τ (e.1,m) u:=by
 rcases h with⟨a,b⟩|⟨a,b⟩
 .exact .inl ⟨a,c _ b⟩
 .exact .inr ⟨a,c _ b⟩
def gM(σ:Sg)(b:Nat):Ob->Prop
 |.box c=>∃a T,σ.w.heap[b]?=some (.cells a T (0,0))/\kV σ c a
 |.row f c a d=>0<c/\∃a T f n,σ.w.heap[b]?=some (.cells a T (0,0))/\a.size=f*c/\n<=f/\(d.length=n*c/\n<=140737488355328)/\
   ∀(i:Nat) (m:M) (v:Value),d[i]?=some m->a[i]?=some v->RM σ m v/\flat v=true
 |.map c=>∃a d,σ.w.heap[b]?=some (.map a d)/\a.size=c.length/\∀(i:Nat) e u,c[i]?=some e->a[i]?=some u->wj σ e u
 |.iter x=>∃a c last,σ.w.heap[b]?=some (.mapIter a c #[] last)/\RM σ x (.map a)
 |.dead=>True
 |.free=>True
structure kQ(σ:Sg)(a:Nat->Nat->Prop):Prop where
 obj:∀(i:Nat) ob,σ.H[i]?=some ob->gM σ (σ.l i) ob
 inj:∀(i j:Nat) x y,σ.H[i]?=some x->σ.H[j]?=some y->x.live->y.live->σ.l i=σ.l j->i=j
 own:∀b o,σ.O b o↔a b o\/∃(i:Nat) (ob:Ob),σ.H[i]?=some ob/\σ.l i=b/\ob.jX o
 sep:∀(i:Nat) ob,σ.H[i]?=some ob->ob.live->∀o,¬a (σ.l i) o
 mE:∀b o,a b o->b<σ.w.heap.size
def gM.lt{b:Nat}(h:gM σ b ob)(d:ob.live):b<σ.w.heap.size:=by
 have a:∀x:Obj,σ.w.heap[b]?=some x->b<σ.w.heap.size:=by
  intro x f;rcases asp b σ.w.heap.size with h|h
  .exact h
  .simp[asZ h]at f
 cases ob with
 |box g=>obtain⟨i,T,f,_⟩:=h;exact a _ f
 |row l j k g=>obtain⟨_,i,T,m,n,f,_⟩:=h;exact a _ f
 |map g=>obtain⟨e,c,f,_⟩:=h;exact a _ f
 |iter x=>obtain⟨_,_,_,f,_⟩:=h;exact a _ f
 |dead=>exact d.elim
 |free=>exact d.elim
def kQ.CV{c:Nat->Nat->Prop}(h:kQ σ c):∀b o,σ.O b o->b<σ.w.heap.size:=by
 intro b o d;rcases(h.own b o).1 d with a|⟨i,e,a,f,g⟩
 .exact h.mE b o a
 .rw[<-f];exact(h.obj i e a).lt (Ob.jI g)
structure bF(σ τ:Sg):Prop where
 os:τ.w.os=σ.w.os
 output:τ.w.output=σ.w.output
 tape:τ.w.tape=σ.w.tape
 size:σ.w.heap.size<=τ.w.heap.size
 cy:∀b,b<σ.w.heap.size->(∀(i:Nat) ob,σ.H[i]?=some ob->ob.live->σ.l i≠b)->τ.w.heap[b]?=σ.w.heap[b]?
 loc:∀(i:Nat) ob,τ.H[i]?=some ob->ob.live->σ.w.heap.size<=τ.l i\/∃PA,σ.H[i]?=some PA/\PA.live/\τ.l i=σ.l i
def bF.refl(σ:Sg):bF σ σ:=⟨rfl,rfl,rfl,asj _,λ_ _ _=>rfl,λi a h b=>.inr ⟨a,h,b,rfl⟩⟩
def bF.trans{d:Sg}(h:bF σ τ)(k:bF τ d):bF σ d:=by
 refine⟨k.os.trans h.os,k.output.trans h.output,k.tape.trans h.tape,ata h.size k.size,?_,?_⟩
 .intro b a c;rw[k.cy b (atm a h.size) ?_,h.cy b a c];intro i f g j l;rcases h.loc i f g j with e|⟨m,e,n,o⟩
  .omega
  .exact c i m e n (by rw[<-o];exact l)
 .intro i f g j;rcases k.loc i f g j with a|⟨l,a,m,e⟩
  .exact .inl (ata h.size a)
  .rcases h.loc i l a m with c|⟨p,c,n,o⟩
   .exact .inl (by rw[e];exact c)
   .exact .inr ⟨p,c,n,e.trans o⟩
inductive RV(σ:Sg)(OC:Nat->Nat):V->Value->Prop where
 |m {x:M} {v:Value} (h:RM σ x v):RV σ OC (.m x) v
 |loc (t a:Nat):RV σ OC (.loc t a) (.pointer (some ⟨OC t,a,none⟩))
 |tl (i c b d:Nat) (f:Option Addr) (e:Nat)
   (hle:σ.H[i]?=some .dead\/∃e b a d,σ.H[i]?=some (.row e b a d)/\c<=a)
   (P4:∀h a g,σ.H[i]?=some (.row h a c g)->(e≠0->f=some ⟨σ.l i,b*a,none⟩)/\g.length=(b+d)*a/\∃c T,σ.w.heap[σ.l i]?=some (.cells c T (0,0))/\c.size=(b+e)*a):
   RV σ OC (.tl i c b d) (.slice f d e)
def RV.mono{OC:Nat->Nat}(b:dI σ τ){x:V}{v:Value}(h:RV σ OC x v):RV τ OC x v:=by
 cases h with
 |m h=>exact .m (h.mono b)
 |loc t a=>exact .loc t a
 |tl i q M N r O n s=>
  refine .tl i q M N r O ?_ λo c f a=>?_
  .rcases n with h|⟨o,c,g,f,j,k⟩
   .exact .inl (b.dead i h)
   .rcases b.row i o c g f j with d|⟨l,p,t,d,u,_⟩
    .exact .inl d
    .exact .inr ⟨l,c,p,t,d,ata k u⟩
  .rcases n with h|⟨j,p,k,l,g,P⟩
   .have:=b.dead i h;rw[this]at a;cases a
   .rcases b.row i j p k l g with d|⟨Q,t,R,d,S,u⟩
    .rw[d]at a;cases a
    .rw[d]at a;injection a with a
     injection a with w y z A
     subst w;subst y;subst A;subst z;have e:k=t:=by omega
     subst e;obtain⟨B,C,D⟩:=u W;obtain⟨E,F,G,T,H,I⟩:=s j p l g;obtain⟨J,K,L⟩:=D G T H;rw[B];exact⟨E,C.trans F,J,T,K,L.trans I⟩
def ou(a:Nat->Nat->Prop)(OC:Nat->Nat)(bx:List (Nat×List M))(b o:Nat):Prop:=
 a b o\/∃t a,get bx t=some a/\OC t=b
structure bW where
 P:Program
 n:Nat
 s0:Sg
 j_:Nat->Nat->Prop
 df:List Deferred
structure cC(X:bW)(σ:Sg)(OC:Nat->Nat)(st:St)(a:Act):Prop where
 hH:σ.H=st.H
 defers:a.defers=X.df
 size:a.tmps.size=X.n
 slot:∀t v,get st.sl t=some v->∃u,a.tmps[t]?=some u/\RV σ OC v u
 box:∀t cs,get st.bx t=some cs->gM σ (OC t) (.box cs)
 rU:∀t u cs ds,get st.bx t=some cs->get st.bx u=some ds->OC t=OC u->t=u
 sC:∀t cs,get st.bx t=some cs->∀o,¬X.j_ (OC t) o
 sD:∀t cs,get st.bx t=some cs->X.s0.w.heap.size<=OC t
 hinv:kQ σ (ou X.j_ OC st.bx)
 mono:dI X.s0 σ
 cy:bF X.s0 σ
def Inv(X:bW)(st:St)(a:Act)(w:World):Prop:=∃b c,b.w=w/\cC X b c st a
def TC(X:bW)(c:Code)(st:St)(post:Exit->St->Prop):Prop:=
 ∀a w,Inv X st a w->c.wp X.P (λe b d=>∃a,post e a/\Inv X a b d) a w
def TL(X:bW)(ops:Array Oper)(l:List Oper)(st:St)(post:St->Prop):Prop:=
 ∀a w,Inv X st a w->wpList X.P ops (λe b c=>e=.normal/\∃a,post a/\Inv X a b c) l a w
def after(post:Exit->St->Prop)(k:St->Prop):Exit->St->Prop
 |.normal,s=>k s
 |e,s=>post e s
section code
variable{X:bW}{st:St}{post:Exit->St->Prop}
def TC.mono{a:Exit->St->Prop}(h:TC X c st post)(b:∀e s,post e s->a e s):TC X c st a:=
 λa w d=>wp_mono (h a w d) λe f g ⟨s,a,d⟩=>⟨s,b _ _ a,d⟩
def TC.seq{x y:Code}(h:TC X x st (after post λs=>TC X y s post)):TC X (.seq x y) st post:=by
 intro a w b;refine wp_seq (wp_mono (h a w b) ?_);intro e c d ⟨s,h1,h2⟩;cases e with
 |normal=>exact h1 c d h2
 |_=>exact⟨s,h1,h2⟩
def TC.skip(h:post .normal st):TC X .skip st post:= λa w a=>wp_skip ⟨st,h,a⟩
def TC.exit(h:post (.exit id) st):TC X (.exit id) st post:= λa w a=>wp_exit ⟨st,h,a⟩
def TC.ret(h:post .ret st):TC X .ret st post:= λa w a=>wp_ret ⟨st,h,a⟩
def sF(a:Nat)(post:Exit->St->Prop):Exit->St->Prop
 |.exit i,s=>if i=a then post .normal s else post (.exit i) s
 |e,s=>post e s
def TC.block(h:TC X c st (sF id post)):TC X (.block id c) st post:=by
 intro b w d;refine wp_block (wp_mono (h b w d) ?_);intro e f g ⟨s,h1,h2⟩;cases e with
 |exit i=>
  simp only[sF]at h1;simp only[Exit.inBlock];by_cases a:i=id
  .rw[asB a]at h1⊢;exact⟨s,h1,h2⟩
  .rw[asu a]at h1⊢;exact⟨s,h1,h2⟩
 |_=>exact⟨s,h1,h2⟩
def TC.region{ops:List Oper}(h:TL X ops.toArray ops st (post .normal)):TC X (.region id ops.toArray false) st post:=by
 intro a w k;refine wp_region_lit ?_;have s:∀l a w,wpList X.P ops.toArray (λe b d=>e=.normal/\∃a,post .normal a/\Inv X a b d) l a w->
   wpList X.P ops.toArray (λe b d=>∃a,post e a/\Inv X a b d) l a w:=by
  have b:∀(e:Exit) a w,(e=.normal/\∃b,post .normal b/\Inv X b a w)->∃i,post e i/\Inv X i a w:=by
   rintro e a w ⟨rfl,h⟩;exact h
  have j:∀(Q c:Exit->Act->World->Prop),(∀e a w,Q e a w->c e a w)->LetsOut Q->LetsOut c:= λQ c h ⟨a,w,q⟩=>⟨a,w,h _ _ _ q⟩
  have up:∀(o:Oper) (a:Act) (w:World) (next g:Act->World->Prop) (Q c:Exit->Act->World->Prop),(∀a w,next a w->g a w)->(∀e a w,Q e a w->c e a w)->o.wp X.P a w next Q->o.wp X.P a w g c:=by
   intro o a w next g Q c hn b h
   unfold Oper.wp at*;generalize (execOp a.eval o).run X.P w=r at*;cases r with
   |ok x d=>
    cases x<;>simp only[Oper.upon]at h⊢ <;>
     first
      |exact hn _ _ h
      |exact Calls.mono h (λe m f=>by cases e<;>first|exact hn _ _ f|exact b _ _ _ f|exact j _ _ b f)
      |exact Rows.mono h (λ_ _ a=>hn _ _ a)
      |exact h
   |halt x d=>cases x<;>simp only[Oper.upon]at h⊢ <;>first|exact b _ _ _ h|exact h
  intro l
  induction l with
  |nil=>intro a w h;exact b _ _ _ h
  |cons o l f=>
   intro a w h;unfold wpList at h⊢;split
   .rename_i m;rw[asB m]at h;rcases h with h|⟨n,p⟩
    .exact .inl (up o a w _ _ _ _ f b h)
    .exact .inr ⟨n,j _ _ b p⟩
   .rename_i m;rw[asu m]at h;exact f _ _ h
 exact s _ _ _ (h a w k)
end code
end Go.Mt
namespace Go.Mt
variable{x y c:Operand}{o:Oper}{X:bW}{v:V}{st s:St}{a:Act}{w w':World}{σ:Sg}{OC:Nat->Nat}{ops:Array Oper}{post:St->Prop}{rest:List Oper}{k:IntKind}{n m:Int}{xt d yt:Nat}{P:Program}{ρ:Operand->Value}{b:Bool}{O:Nat->Nat->Prop}{u:Value}{S6:V->St->Prop}
def dG(P:Program)(o:Oper)(ρ:Operand->Value)(w:World)(post:Value->World->Prop):Prop:=
 match(execOp ρ o).run P w with
 |.ok (.value u) a=>post u a
 |.ok .skip a=>post undef a
 |.ok (.enter f b) a=>Calls P f b a λe a=>∃u,e=.returned u/\post u a
 |_=>False
def dG.value{post:Value->World->Prop}
  (h:(execOp ρ o).run P w=.ok (.value u) w') (a:post u w'):dG P o ρ w post:=by
 unfold dG;rw[h];exact a
def dG.skip{post:Value->World->Prop}
  (h:(execOp ρ o).run P w=.ok .skip w') (a:post undef w'):dG P o ρ w post:=by
 unfold dG;rw[h];exact a
def dG.enter{f:Nat}{args:Array Value}{post:Value->World->Prop}
  (h:(execOp ρ o).run P w=.ok (.enter f args) w') (a:Calls P f args w' λe a=>∃u,e=.returned u/\post u a):dG P o ρ w post:=by
 unfold dG;rw[h];exact a
def dG.wp{post:Value->World->Prop}{next:Act->World->Prop}{Q:Exit->Act->World->Prop}
  (h:dG P o a.eval w post) (c:∀u b,post u b->next (a.put o.dst u) b):o.wp P a w next Q:=by
 unfold dG at h;unfold Oper.wp;generalize (execOp a.eval o).run P w=r at*;cases r with
 |ok x b=>
  cases x<;>simp only[Oper.upon]at h⊢ <;>
   first
    |exact c _ _ h
    |exact h.elim
    |exact Calls.mono h (λe g ⟨u,d,f⟩=>by subst d;exact c _ _ f)
 |halt x b=>simp at h
def cL(X:bW)(o:Oper)(st:St)(post:V->St->Prop):Prop:=
 ∀a b c,cC X b c st a->dG X.P o a.eval b.w λu e=>∃v c b d,post v c/\b.w=e/\cC X b d c a/\RV b d v u
def jP(ops:Array Oper)(o:Oper)(st:St):Option Bool:=
 match o.guard with
 |none=>some true
 |some (j,a)=>match(ops[j]?).bind (·.dst)with
  |some g=>match get st.sl g with
   |some (.m (.d (.bool b)))=>some (b==a)
   |some (.m (.di []))=>some false
   |_=>none
  |none=>none
def bM{a:Type}(k t:Nat)(v:a)(l:List (Nat×a)):get ((k,v)::l) t=if k=t then some v else get l t:=by
 show(bif Nat.beq k t then some v else get l t)=_;by_cases h:k=t
 .subst h;simp
 .have:Nat.beq k t=false:=by rw[<-atr];intro e;exact h (asy e)
  rw[this,asu h];rfl
def cC.set{sl:List (Nat×V)}{bx:List (Nat×List M)}{H:Hp}
  (h:cC X σ OC ⟨sl,bx,H⟩ a) (c:d<X.n) (f:RV σ OC v u):cC X σ OC ⟨(d,v)::sl,bx,H⟩ (a.put (some d) u):=by
 refine⟨h.hH,h.defers,?_,?_,h.box,h.rU,h.sC,h.sD,h.hinv,h.mono,h.cy⟩
 .simp[Act.put,h.size]
 .intro t x b;simp only[bM]at b;by_cases e:d=t
  .subst e;simp at b;subst b;refine⟨u,?_,f⟩;simp[Act.put,h.size,c]
  .rw[asu e]at b;obtain⟨g,i,j⟩:=h.slot t x b;refine⟨g,?_,j⟩;simp[Act.put,atj e,i]
def cC.wanted(h:cC X σ OC st a)
  (c:jP ops o st=some b):Region.wanted o (yielded ops a.tmps)=b:=by
 unfold jP at c;unfold Region.wanted;split at c
 .rename_i f;simp only[f];injection c with e
 .rename_i r i j;simp only[j];split at c
  .rename_i s f;split at c
   .rename_i g k;obtain⟨u,l,n⟩:=h.slot _ _ k;cases n with
    |m p=>cases p with
     |d q=>cases q with
      |bool g=>
       injection c with e
       subst e;simp only[yielded,f,auO,l];cases g<;>cases i<;>rfl
   .rename_i g;obtain⟨u,k,l⟩:=h.slot _ _ g;cases l with
    |m n=>cases n with
     |di p q t v=>
      injection c with e
      subst e;simp only[yielded,f,auO,k];cases i<;>rfl
   .cases c
  .cases c
def bN{a b:Nat}(h:Nat.blt a b=true):a<b:=by rw[Nat.blt_eq]at h;exact h
def TL.op
  (e:jP ops o st=some true) (f:o.dst=some d) (g:Nat.blt d X.n=true) (h:cL X o st S6)
  (k:∀v s,S6 v s->TL X ops rest ⟨(d,v)::s.sl,s.bx,s.H⟩ post):TL X ops (o::rest) st post:=by
 rintro b w ⟨c,i,rfl,a⟩;unfold wpList;rw[asB (a.wanted e)];refine .inl ((h b c i a).wp ?_);rintro u r ⟨v,s,j,l,m,n,p,q⟩;rw[f];exact k v s m _ _ ⟨j,l,n,p.set (bN g) q⟩
def TL.N7
  (d:jP ops o st=some true) (e:o.dst=none) (h:cL X o st S6)
  (k:∀v s,S6 v s->TL X ops rest s post):TL X ops (o::rest) st post:=by
 rintro b w ⟨c,f,rfl,a⟩;unfold wpList;rw[asB (a.wanted d)];refine .inl ((h b c f a).wp ?_);rintro u n ⟨v,s,g,i,j,l,m,p⟩;rw[e];exact k v s j _ _ ⟨g,i,l,m⟩
def TL.skip
  (a:jP ops o st=some false) (b:o.dst=some d) (c:Nat.blt d X.n=true)
  (k:TL X ops rest ⟨(d,.m (.di []))::st.sl,st.bx,st.H⟩ post):TL X ops (o::rest) st post:=by
 intro e w ⟨σ,OC,Ri,hi⟩;unfold wpList;rw[asu (by rw[hi.wanted a];simp)];rw[b];exact k _ _ ⟨σ,OC,Ri,hi.set (bN c) (.m (.di [] #[] W (by intro i m v h;simp at h)))⟩
def TL.nil(h:post st):TL X ops [] st post:=
 λa w a=>⟨rfl,st,h,a⟩
def du(v:V)(st:St):V->St->Prop:= λa b=>a=v/\b=st
def TL.lY
  (a:jP ops o st=some true) (b:o.dst=some d) (c:Nat.blt d X.n=true) (h:cL X o st (du v s))
  (k:TL X ops rest ⟨(d,v)::s.sl,s.bx,s.H⟩ post):TL X ops (o::rest) st post:=
 TL.op a b c h λg i ⟨e,f⟩=>by subst e;subst f;exact k
def TL.FZ
  (a:jP ops o st=some true) (b:o.dst=none) (h:cL X o st (du v s))
  (k:TL X ops rest s post):TL X ops (o::rest) st post:=
 TL.N7 a b h λe f ⟨c,d⟩=>by subst c;subst d;exact k
def OM(h:∀c a b,cC X a b st c->∃u,(execOp c.eval o).run X.P a.w=.ok (.value u) a.w/\RV a b v u):
  cL X o st (du v st):=by
 intro c a b d;obtain⟨u,e,f⟩:=h c a b d;exact dG.value e ⟨v,st,a,b,⟨W,W⟩,W,d,f⟩
def vf{v:Value}{d:D}(h:qo v=some d):gL O w d v:=by
 unfold qo at h;split at h<;>first
  |(injection h with h;subst h;constructor)
  |cases h
def uf{O:Nat->Nat->Prop}{w:World} :∀{c:List Value} {ds:List D},lN c=some ds->
  c.length=ds.length/\∀(i:Nat) d v,ds[i]?=some d->c[i]?=some v->gL O w d v
 |[],ds,h=>by simp[lN]at h;subst h;simp
 |v::r,ds,h=>by
  simp only[lN]at h;split at h
  .rename_i d m e f;injection h with h;subst h
   obtain⟨g,j⟩:=uf (O:=O) (w:=w) f;refine⟨by simp[g],λi k l a b=>?_⟩;cases i with
   |zero=>simp at a b;subst a;subst b;exact vf e
   |succ i=>simp at a b;exact j i k l a b
  .cases h
def Ak{v:Value}{d:D}(h:qo v=some d):flat v=true:=by
 unfold qo at h;split at h<;>first|rfl|cases h
def sG:∀{b:List Value} {ds:List D},lN b=some ds->∀(i:Nat) (v:Value),b[i]?=some v->flat v=true
 |[],ds,h,i,v,a=>by simp at a
 |x::r,ds,h,i,v,a=>by
  simp only[lN]at h;split at h
  .rename_i d f c e;cases i with
   |zero=>simp at a;subst a;exact Ak c
   |succ i=>simp at a;exact sG e i v a
  .cases h
def ff{v:Value}{d:D}(h:qW v=some d):gL O w d v:=by
 unfold qW at h;split at h
 .rename_i b;cases a:lN b.toList with
  |none=>simp[a]at h
  |some c=>
   simp[a]at h;subst h;obtain⟨e,f⟩:=uf (O:=O) (w:=w) a;exact .agg c b (by simpa using e) (λi v b=>sG a i v (by simpa using b)) (λi d v b a=>f i d v b (by simpa using a))
 .exact vf h
def cC.ev(h:cC X σ OC st a)(b:st.ev x=some v):
  RV σ OC v (a.eval x):=by
 cases x with
 |tmp t=>
  obtain⟨u,e,f⟩:=h.slot t v b;have:a.eval (.tmp t)=u:=by simp[Act.eval,e]
  rw[this];exact f
 |const c=>
  simp only[St.ev,bh]at b;cases e:qW c with
  |none=>simp[e]at b
  |some d=>simp[e]at b;subst b;exact .m (.d (ff e))
 |func f=>
  simp only[St.ev,bh]at b;injection b with b;subst b
  exact .m (.d (.fn f [] #[] W (by simp)))
 |global g=>simp[St.ev,bh]at b
section ops
variable{X:bW}{st:St}{dst:Option Nat}{ty:Nat}{pos:String}{af:Array Edge}{g:Option (Nat×Bool)}
def CW(a:st.ev x=some v):cL X ⟨dst,.move x,ty,pos,af,g⟩ st (du v st):=
 OM λb b b b=>⟨_,by simp[execOp],b.ev a⟩
def Ew(a:st.ev x=some v):cL X ⟨dst,.assign x,ty,pos,af,g⟩ st (du v st):=
 OM λb b b b=>⟨_,by simp[execOp],b.ev a⟩
def cC.pE(h:cC X σ OC st a){d:D}(b:st.ev x=some (.m (.d d))):
  gL σ.O σ.w d (a.eval x):=by
 have:=h.ev b;cases this with
 |m h=>cases h with
  |d h=>exact h
def cC.xB(h:cC X σ OC st a)(c:st.ev x=some (.m (.d (.bool b)))):
  a.eval x=.bool b:=by
 have:=h.pE c;generalize a.eval x=u at*;cases this;rfl
def cC.kW(h:cC X σ OC st a)(b:st.ev x=some (.m (.d (.int k n)))):
  a.eval x=.int k n:=by
 have:=h.pE b;generalize a.eval x=u at*;cases this;rfl
def cC.wk(h:cC X σ OC st a){s:ByteArray}(b:st.ev x=some (.m (.d (.str s)))):
  a.eval x=.string s:=by
 have:=h.pE b;generalize a.eval x=u at*;cases this;rfl
def Ey(b:st.ev c=some (.m (.d (.bool true))))(d:st.ev x=some v):
  cL X ⟨dst,.pick c x y,ty,pos,af,g⟩ st (du v st):=
 OM λa a a a=>⟨_,by simp[execOp,a.xB b,asBool],a.ev d⟩
def Ez(b:st.ev c=some (.m (.d (.bool false))))(d:st.ev y=some v):
  cL X ⟨dst,.pick c x y,ty,pos,af,g⟩ st (du v st):=
 OM λa a a a=>⟨_,by simp[execOp,a.xB b,asBool],a.ev d⟩
def lZ:BinOp->IntKind->Int->Int->Option D
 |.add,k,a,b=>some (.int k (k.wrap (a+b)))
 |.sub,k,a,b=>some (.int k (k.wrap (a-b)))
 |.mul,k,a,b=>some (.int k (k.wrap (a*b)))
 |.eql,_,a,b=>some (.bool (a==b))
 |.neq,_,a,b=>some (.bool (a !=b))
 |.lss,_,a,b=>some (.bool (decide (a<b)))
 |.leq,_,a,b=>some (.bool (decide (a<=b)))
 |.gtr,_,a,b=>some (.bool (decide (a>b)))
 |.geq,_,a,b=>some (.bool (decide (a>=b)))
 |_,_,_,_=>none
def vg{op:BinOp}{r:D}(c:st.ev x=some (.m (.d (.int k m))))(d:st.ev y=some (.m (.d (.int k n))))
  (a:lZ op k m n=some r):cL X ⟨dst,.binOp op xt x y yt,ty,pos,af,g⟩ st (du (.m (.d r)) st):=by
 refine OM λh i j b=>?_
 have e:=b.kW c;have f:=b.kW d;cases op<;>simp only[lZ]at a<;>first|(injection a with a;subst a;refine⟨_,by simp[execOp,e,f,eqGuard,binOp,Op.intArith,Op.intCmp];rfl,?_⟩;exact .m (.d (by constructor)))|cases a
def F0(b:st.ev x=some (.m (.d (.int k m))))(c:st.ev y=some (.m (.d (.int k n))))
  (d:(n==0)=false):cL X ⟨dst,.binOp .quo xt x y yt,ty,pos,af,g⟩ st (du (.m (.d (.int k (k.wrap (m.tdiv n))))) st):=by
 refine OM λe f h a=>?_
 have e:=a.kW b;have b:=a.kW c;have a:¬n=0:=by simpa using d
 exact⟨_,by simp[execOp,e,b,eqGuard,binOp,Op.intDiv,a];rfl,.m (.d (by constructor))⟩
def F7(b:st.ev x=some (.m (.d (.int k m))))(c:st.ev y=some (.m (.d (.int k n))))
  (d:(n==0)=false):cL X ⟨dst,.binOp .rem xt x y yt,ty,pos,af,g⟩ st (du (.m (.d (.int k (m.tmod n)))) st):=by
 refine OM λe f h a=>?_
 have e:=a.kW b;have b:=a.kW c;have a:¬n=0:=by simpa using d
 exact⟨_,by simp[execOp,e,b,eqGuard,binOp,Op.intDiv,a];rfl,.m (.d (by constructor))⟩
def KD(a:st.ev x=some (.m (.d (.bool b)))):cL X ⟨dst,.unOp .not xt x,ty,pos,af,g⟩ st (du (.m (.d (.bool (!b)))) st):=by
 refine OM λd e f c=>?_
 have d:=c.xB a;exact⟨_,by simp[execOp,d,Op.unary];rfl,.m (.d (by constructor))⟩
def KE(a:st.ev x=some (.m (.d (.int k n)))):cL X ⟨dst,.unOp .neg xt x,ty,pos,af,g⟩ st (du (.m (.d (.int k (k.wrap (-n))))) st):=by
 refine OM λc d e b=>?_
 have c:=b.kW a;exact⟨_,by simp[execOp,c,Op.unary,Op.intArith];rfl,.m (.d (by constructor))⟩
def sH(a b:ByteArray):(a.toList==b.toList)=decide (a=b):=by
 rw[auD];simp;constructor
 .intro h;have:a.data.toList=b.data.toList:=by
   rw[ByteArray.toList_eq,ByteArray.toList_eq]at h;exact h
  cases a;cases b;simp at this;simp[this]
 .rintro rfl;rfl
end ops
end Go.Mt
namespace Go.Mt
variable{x y:Operand}{t o b off n s f i xt yt e:Nat}{w w':World}{P:Program}{σ:Sg}{d:D}{cs ds:List D}{v:Value}{O:Nat->Nat->Prop}{u:ByteArray}{X:bW}{st:St}
structure gg(w w':World):Prop where
 os:w'.os=w.os
 output:w'.output=w.output
 tape:w'.tape=w.tape
 size:w.heap.size<=w'.heap.size
 cy:∀b,b<w.heap.size->w'.heap[b]?=w.heap[b]?
def gg.alloc(w:World)(o:Obj):gg w {w with heap:=w.heap.push o} :=
 ⟨rfl,rfl,rfl,by simp,λb a=>by simp[aue];omega⟩
def gg.drew(w:World):gg w {w with drawn:=w.drawn+1} :=⟨rfl,rfl,rfl,asj _,λ_ _=>rfl⟩
def gj{x:Obj}(h:w.heap[b]?=some x):b<w.heap.size:=by
 rcases asp b w.heap.size with a|a
 .exact a
 .simp[asZ a]at h
def l9(h:dZ w b o=some v):b<w.heap.size:=by
 unfold dZ World.cell? at h;cases a:w.heap[b]? with
 |none=>simp[a]at h
 |some x=>exact gj a
def nc(h:w'.heap[b]?=w.heap[b]?):dZ w' b o=dZ w b o:=by
 unfold dZ World.cell?;rw[h]
def gg.cell(h:gg w w')(a:dZ w b o=some v):dZ w' b o=some v:=by
 rw[nc (h.cy b (l9 a))];exact a
def gg.heap(h:gg w w'){x:Obj}(a:w.heap[b]?=some x):w'.heap[b]?=some x:=by
 rw[h.cy b (gj a)];exact a
def dI.ext(h:gg σ.w w'):dI σ {σ with w:=w'} :=
 ⟨λb o v a c=>⟨h.cell a,c⟩,λi c a=>⟨⟨c,a⟩,rfl⟩,λi c a=>⟨⟨c,a⟩,rfl⟩,λi c a=>⟨⟨c,a⟩,rfl⟩,λi a=>a,
 λi e a d c a=>.inr ⟨e,d,c,a,asj _,λ_=>⟨rfl,rfl,λa T c=>⟨a,h.heap c,rfl⟩⟩⟩,λ_ h=>⟨_,h⟩⟩
def gM.cH{τ:Sg}(a:dI σ τ){b':Nat}{ob:Ob}(d:∀x,σ.w.heap[b]?=some x->τ.w.heap[b']?=some x)(h:gM σ b ob):gM τ b' ob:=by
 cases ob with
 |box j=>obtain⟨f,T,g,i⟩:=h;exact⟨f,T,d _ g,i.mono a⟩
 |row t r s q=>obtain⟨k,g,T,p,n,i,j,l,o,f⟩:=h;exact⟨k,g,T,p,n,d _ i,j,l,o,λi m v d b=>⟨(f i m v d b).1.mono a,(f i m v d b).2⟩⟩
 |map i=>obtain⟨e,c,f,g,j⟩:=h;exact⟨e,c,d _ f,g,λi e u d b=>(j i e u d b).up λv d=>d.mono a⟩
 |iter x=>obtain⟨i,s,l,f,g⟩:=h;exact⟨i,s,l,d _ f,g.mono a⟩
 |dead=>trivial
 |free=>trivial
def kQ.ext{a:Nat->Nat->Prop}(hi:kQ σ a)(h:gg σ.w w'):kQ {σ with w:=w'} a:=
 ⟨λi a c=>(hi.obj i a c).cH (dI.ext h) (λx a=>h.heap a),hi.inj,hi.own,hi.sep,λb o a=>atm (hi.mE b o a) h.size⟩
def bF.ext(h:gg σ.w w'):bF σ {σ with w:=w'} :=
 ⟨h.os,h.output,h.tape,h.size,λb a _=>h.cy b a,λi a c d=>.inr ⟨a,c,d,rfl⟩⟩
def cC.ext{OC:Nat->Nat}{a:Act}(hi:cC X σ OC st a)(h:gg σ.w w'):
  cC X {σ with w:=w'} OC st a:=
 ⟨hi.hH,hi.defers,hi.size,λt v b=>let⟨u,c,d⟩:=hi.slot t v b;⟨u,c,d.mono (dI.ext h)⟩,
 λt c b=>(hi.box t c b).cH (dI.ext h) (λx b=>h.heap b),hi.rU,hi.sC,hi.sD,hi.hinv.ext h,
 hi.mono.trans (dI.ext h),hi.cy.trans (bF.ext h)⟩
def cL.grow{o:Oper}{v:V}(h:∀d a b,cC X a b st d->∃u c,(execOp d.eval o).run X.P a.w=.ok (.value u) c/\gg a.w c/\RV {a with w:=c} b v u):
  cL X o st (du v st):=by
 intro d a b e;obtain⟨u,c,f,g,i⟩:=h d a b e;exact dG.value f ⟨v,st,{a with w:=c},b,⟨rfl,rfl⟩,rfl,e.ext g,i⟩
def F8(O:Nat->Nat->Prop)(w:World)(ds:List D)(a:Array Value):Prop:=
 a.size=ds.length/\∀(i:Nat) (d:D) (v:Value),ds[i]?=some d->a[i]?=some v->gL O w d v
def L4(O:Nat->Nat->Prop)(w:World)(ds:List D)(a:Array Value):Prop:=
 a.size=ds.length/\∀(i:Nat) (d:D) (v:Value),ds[i]?=some d->a[i]?=some v->gL O w d v/\flat v=true
def gL.cells(h:gL O w d v):L4 O w (bg d) v.cells:=by
 cases h with
 |agg c e a b h=>exact⟨a,λi d v c a=>⟨h i d v c a,b i v a⟩⟩
 |_=>
  refine⟨W,λi c e a b=>?_⟩;cases i with
  |zero=>simp[bg,Value.cells]at a b;subst a;subst b;exact⟨by constructor<;>assumption,rfl⟩
  |succ i=>simp[bg]at a
def M.iK:M->Bool
 |.undef=>false
 |.di _=>false
 |_=>true
variable{m:M}
def RM.cells(h:RM σ m v)(e:m.iK=true):kV σ (cellsOf m) v.cells:=by
 have a:∀(m:M) (v:Value),RM σ m v->flat v=true->kV σ [m] #[v]:=by
  intro m v h g;refine⟨W,λi j k c f=>?_⟩;cases i with
  |zero=>simp at c f;subst c;subst f;exact⟨h,g⟩
  |succ i=>simp at c
 cases h with
 |d h=>
  have c:=h.cells;refine⟨by simp[cellsOf,c.1],λi m v f g=>?_⟩;simp only[cellsOf,asF,as0]at f;obtain⟨d,j,rfl⟩:=f;exact⟨.d (c.2 i d v j g).1,(c.2 i d v j g).2⟩
 |agg g i f c h=>exact⟨f,λi d v e a=>⟨h i d v e a,c i v a⟩⟩
 |ref i f c h=>exact a _ _ (.ref i f c h) W
 |bC i j k c l f g=>exact a _ _ (.bC i j k c l f g) W
 |et i g j b c f=>exact a _ _ (.et i g j b c f) W
 |mp i c h=>exact a _ _ (.mp i c h) W
 |it i x h=>exact a _ _ (.it i x h) W
 |fn f c g i h=>exact a _ _ (.fn f c g i h) W
 |di c f g h=>simp[M.iK]at e
 |undef v=>simp[M.iK]at e
def xU(w:World)(a:Array Value)(T:Nat)(b:Nat×Nat)(i:Nat):dZ {w with heap:=w.heap.push (.cells a T b)} w.heap.size i=a[i]?:=by
 simp[dZ,World.cell?]
def gL.KF{a:Array Value}{T:Nat}(e:∀b o,O b o->b<w.heap.size)(h:L4 O w ds a):
  gL O {w with heap:=w.heap.push (.cells a T (0,0))} (.aZ ds 0) (.pointer (some ⟨w.heap.size,0,none⟩)):=by
 refine gL.aZ ds 0 w.heap.size 0 (λi=>a.getD i undef) ?_ ?_ ?_
 .intro i c;refine⟨?_,λa=>by have:=e _ _ a;omega⟩;rw[atH,xU];have:i<a.size:=by rw[h.1];exact c
  simp[this]
 .intro i c;have f:i<a.size:=by rw[h.1];exact c
  have g:a[i]?=some (a.getD i undef):=by simp[f]
  exact(h.2 i ds[i] _ (by simp[c]) g).2
 .intro i d c;have f:i<a.size:=by rw[h.1];rcases asp i ds.length with h|h;exact h;simp[asr h]at c
  have:=(h.2 i d (a.getD i undef) c (by simp[f])).1;exact this.mono λb o v c a=>⟨(gg.alloc w _).cell c,a⟩
section ops
variable{X:bW}{st:St}{dst:Option Nat}{ty:Nat}{pos:String}{af:Array Edge}{g:Option (Nat×Bool)}
def KG(b:st.ev x=some (.m (.d d))):
  cL X ⟨dst,.box t x,ty,pos,af,g⟩ st (du (.m (.d (.aZ (bg d) 0))) st):=by
 refine cL.grow λc e f a=>?_
 have h:=(a.pE b).cells;exact⟨_,_,by simp[execOp,Instr.box,newVar,newRow,newObj,Sem.run];rfl,gg.alloc _ _,.m (.d (gL.KF a.hinv.CV h))⟩
class jQ(P:Program)(t:Nat)(n:outParam Nat):Prop where
 agg:uw P t=some true
 size:fT P t=some n
class bY(P:Program)(t:Nat)(n:outParam Nat):Prop where
 size:fT P t=some n
class gN(P:Program)(t:Nat)(z:outParam D):Prop where
 zero:tK P t=some z
class cA(P:Program)(t:Nat):Prop where
 cell:uw P t=some false
def cA.run(h:cA P t)(w:World):(isAgg t).run P w=.ok false w:=by
 have:=h.cell;unfold uw at this;unfold isAgg underlying;simp[program,Sem.run];cases a:P.underlying t with
 |none=>simp[a]at this
 |some d=>cases d<;>simp_all
def jQ.run(h:jQ P t n)(w:World):(isAgg t).run P w=.ok true w:=by
 have:=h.agg;unfold uw at this;unfold isAgg underlying;simp[program,Sem.run];cases a:P.underlying t with
 |none=>simp[a]at this
 |some d=>cases d<;>simp_all
def dt(h:fT P t=some n)(w:World):(sizeOf t).run P w=.ok n w:=by
 unfold fT at h;unfold sizeOf typeInfo;simp[program,Sem.run];cases a:P.info? t with
 |none=>simp[a]at h
 |some d=>simp[a]at h;simp[h]
def lO(b o n:Nat):(⟨b,o,none⟩:Addr).add n=⟨b,o+n,none⟩:=by
 unfold Addr.add;split
 .rename_i h;subst h;rfl
 .rfl
def xV(h:dZ w b o=some v):(load ⟨b,o,none⟩).run P w=.ok v w:=by
 unfold dZ at h;simp[h]
def kg{a:Array Value} :∀(n i:Nat) (acc:Array Value),i+n=a.size->acc=a.extract 0 i->
  (∀j,j<a.size->dZ w b (o+j)=some (a.getD j undef))->(loadCellsFrom ⟨b,o,none⟩ i n acc).run P w=.ok a w
 |0,i,acc,d,c,_=>by
  have:i=a.size:=by omega
  subst this;simp[loadCellsFrom,c]
 |n+1,i,acc,m,e,c=>by
  have d:i<a.size:=by omega
  rw[loadCellsFrom];simp only[lO,Sem.run_bind,xV (c i d),Result.andThen_ok];refine kg n (i+1) _ (by omega) ?_ c;rw[e];apply aun;intro k;simp[aue,atI];have:i<=a.size:=by omega
  rcases atz k i with h|h|h
  .have f:k<min i a.size:=by omega
   have g:¬k=min i a.size:=by omega
   have l:k<min (i+1) a.size:=by omega
   simp[g,f,l]
  .subst h;simp[auj this,d];omega
  .have f:¬k=min i a.size:=by omega
   have g:¬k<min (i+1) a.size:=by omega
   have l:¬k<min i a.size:=by omega
   simp[f,g,l]
def oe{a:Type}(l:List a)(off n i:Nat)(hi:i<n):((l.drop off).take n)[i]?=l[off+i]?:=by
 rw[aug hi,at5]
def xW{val:Nat->Value}(c:sy P t cs off=some d)
  (g:∀i,i<cs.length->dZ w b (o+i)=some (val i)/\¬O b (o+i)) (q:∀i,i<cs.length->flat (val i)=true) (k:∀i d,cs[i]?=some d->gL O w d (val i)):
  ∃u,(Instr.loadAt t (.pointer (some ⟨b,o+off,none⟩))).run P w=.ok u w/\gL O w d u:=by
 unfold sy at c;split at c
 .rename_i n r l;cases e:Nat.ble (off+n) cs.length with
  |false=>simp[e]at c
  |true=>
   simp only[e,as3,atx]at c;subst c;have y:off+n<=cs.length:=atc e;have s:jQ P t n:=⟨r,l⟩
   let a:Array Value:=((List.range n).map λi=>val (off+i)).toArray
   have m:a.size=n:=by simp[a]
   have x:(loadCellsFrom ⟨b,o+off,none⟩ 0 n #[]).run P w=.ok a w:=by
    refine kg n 0 _ (by omega) (by simp) ?_;intro j f;rw[m]at f;have:a.getD j undef=val (off+j):=by simp[a,f]
    rw[this,atd];exact(g (off+j) (by omega)).1
   refine⟨.agg a,?_,.agg _ a ?_ ?_ ?_⟩
   .simp[Instr.loadAt,Instr.sureAddr,loadVar,s.run,dt l,loadCells,x]
   .simp[m];omega
   .intro i v f;have j:i<n:=by
     rcases asp i n with h|h
     .exact h
     .simp[asZ (show a.size<=i by omega)]at f
    have:v=val (off+i):=by simp[a,j]at f;exact f.symm
    subst this;exact q _ (by omega)
   .intro i d v p f;have j:i<n:=by
     rcases asp i n with h|h
     .exact h
     .simp[asZ (show a.size<=i by omega)]at f
    rw[oe cs off n i j]at p;have:v=val (off+i):=by simp[a,j]at f;exact f.symm
    subst this;exact k _ _ p
 .rename_i a;have e:cA P t:=⟨a⟩;have f:off<cs.length:=by
   rcases asp off cs.length with h|h
   .exact h
   .simp[asr h]at c
  refine⟨val off,?_,k off d c⟩;have h:w.cell? ⟨b,o+off,none⟩=some (val off):=(g off f).1;simp[Instr.loadAt,Instr.sureAddr,loadVar,e.run,h]
 .cases c
def wl(c:st.ev x=some (.m (.d (.aZ cs off))))(e:sy X.P t cs off=some d):
  cL X ⟨dst,.load t x,ty,pos,af,g⟩ st (du (.m (.d d)) st):=by
 refine OM λa o q f=>?_
 have h:=f.pE c;generalize i:a.eval x=u at h;cases h with
 |aZ cs off b p val j k l=>
  obtain⟨u,m,n⟩:=xW e j k l;exact⟨u,by simp[execOp,i,m],.m (.d n)⟩
def xX[ht:cA X.P t](a:st.ev x=some (.m (.d (.aZ cs off))))(b:cs[off]?=some d):
  cL X ⟨dst,.load t x,ty,pos,af,g⟩ st (du (.m (.d d)) st):=
 wl a (by simp[sy,ht.cell,b])
def EA[ht:jQ X.P t n](a:st.ev x=some (.m (.d (.aZ cs 0))))(b:cs.length=n):
  cL X ⟨dst,.load t x,ty,pos,af,g⟩ st (du (.m (.d (.agg cs))) st):=by
 refine wl a ?_;subst b;simp only[sy,ht.agg,ht.size,atH];have:Nat.ble cs.length cs.length=true:=atl (asj _);simp[this]
def xY[ht:jQ X.P t n](a:st.ev x=some (.m (.d (.aZ cs off))))(b:Nat.ble (off+n) cs.length=true)(c:(cs.drop off).take n=ds):
  cL X ⟨dst,.load t x,ty,pos,af,g⟩ st (du (.m (.d (.agg ds))) st):=by
 refine wl a ?_;simp[sy,ht.agg,ht.size,b,c]
class jz(P:Program)(s f:Nat)(off:outParam Nat):Prop where
 run:∀(b o:Nat) (w:World),(Instr.fieldAt s (.pointer (some ⟨b,o,none⟩)) f).run P w=.ok (.pointer (some ⟨b,o+off,none⟩)) w
def ux(P:Program)(s f off:Nat):Bool:=
 match P.underlying s with
 |some (.struct a)=>match a[f]? with
  |some a=>match fT P a.type with
   |some n=>n !=0&&a.offset==off
   |none=>false
  |none=>false
 |_=>false
theorem nz(h:ux P s f off=true):jz P s f off:=by
 constructor;intro b o w;unfold ux at h;split at h
 .rename_i g a;split at h
  .rename_i e c;split at h
   .rename_i n d;simp at h;simp[Instr.fieldAt,underlying,program,Sem.run,a,c,Instr.sureAddr,fieldPlace,dt d,h.1,lO,h.2]
   .cases h
  .cases h
 .cases h
def EB(c:st.ev x=some (.m (.d (.aZ cs off))))[hf:jz X.P s f o]:
  cL X ⟨dst,.fieldAddr s x f,ty,pos,af,g⟩ st (du (.m (.d (.aZ cs (off+o)))) st):=by
 refine OM λa m n d=>?_
 have h:=d.pE c;generalize e:a.eval x=u at h;cases h with
 |aZ cs off b i val j k l=>
  refine⟨_,by simp only[execOp,e];simp[hf.run];rfl,.m (.d ?_)⟩;rw[atd];exact .aZ cs (off+o) b i val j k l
def ED(b:st.ev x=some (.loc t off))[hf:jz X.P s f o]:
  cL X ⟨dst,.fieldAddr s x f,ty,pos,af,g⟩ st (du (.loc t (off+o)) st):=by
 refine OM λa e i c=>?_
 have h:=c.ev b;generalize d:a.eval x=u at h;cases h with
 |loc t off=>exact⟨_,by simp only[execOp,d];simp[hf.run],.loc t (off+o)⟩
def xZ(b:st.ev x=some (.m (.ref i off)))[hf:jz X.P s f o]:
  cL X ⟨dst,.fieldAddr s x f,ty,pos,af,g⟩ st (du (.m (.ref i (off+o))) st):=by
 refine OM λa k l c=>?_
 have h:=c.ev b;generalize d:a.eval x=u at h;cases h with
 |m h=>cases h with
  |ref i off e j=>exact⟨_,by simp only[execOp,d];simp[hf.run],.m (.ref i (off+o) e j)⟩
def EE{aK:Nat}(c:st.ev x=some (.m (.et i aK off)))[hf:jz X.P s f o]:
  cL X ⟨dst,.fieldAddr s x f,ty,pos,af,g⟩ st (du (.m (.et i aK (off+o))) st):=by
 refine OM λa l n d=>?_
 have h:=d.ev c;generalize e:a.eval x=u at h;cases h with
 |m h=>cases h with
  |et i aK off b j k=>exact⟨_,by simp only[execOp,e];simp[hf.run],.m (.et i aK (off+o) b j k)⟩
def uy:V->Bool
 |.m (.d (.aZ _ _))=>true
 |.m (.ref _ _)=>true
 |.m (.et _ _ _)=>true
 |.loc _ _=>true
 |.m (.d (.fn _ _))=>true
 |.m (.fn _ _)=>true
 |_=>false
def vh{v:V}(e:st.ev x=some v)(a:uy v=true):
  cL X ⟨dst,.nilCheck x,ty,pos,af,g⟩ st (du v st):=by
 refine OM λc i j f=>?_
 have h:=f.ev e;refine⟨c.eval x,?_,h⟩;generalize b:c.eval x=u at h;cases h with
 |loc t k=>simp[execOp,b]
 |tl _ _ _ _ _ _ _ _=>simp[uy]at a
 |m h=>cases h with
  |d h=>cases h<;>simp[uy]at a<;>simp[execOp,b]
  |_=>first|(simp[uy]at a;done)|simp[execOp,b]
def oV:D->Option Nat
 |.sl a=>some a.length
 |.pD=>some 0
 |_=>none
class aU(P:Program)(t:Nat)(e:outParam Nat):Prop where
 u:P.underlying t=some (.slice e)
class BJ(P:Program)(t:Nat):Prop where
 u:P.underlying t=some .string
def x8(c:st.ev x=some (.m (.d d)))[ht:aU X.P t e](a:oV d=some n):
  cL X ⟨dst,.call ⟨.builtin .len,#[x],#[t]⟩,ty,pos,af,g⟩ st (du (.m (.d (.int .i64 n))) st):=by
 refine OM λb j k f=>?_
 have h:=f.pE c;generalize i:b.eval x=u at h;refine⟨.int .i64 n,?_,.m (.d (.int _ _))⟩;cases h<;>simp[oV]at a<;>subst a<;>simp[execOp,resolve,invoke,builtin,Builtin.len_,underlying,program,Sem.run,ht.u,i,goInt]
def x9{rows:List (List D)}{r:List D}{k:IntKind}{i:Int}(p:st.ev x=some (.m (.d (.sl rows))))(q:st.ev y=some (.m (.d (.int k i))))
  [ht:aU X.P t e] [s:bY X.P e n] (u:0<=i) (a:rows[i.toNat]?=some r) (v:r.length=n):
  cL X ⟨dst,.indexAddr t x y,ty,pos,af,g⟩ st (du (.m (.d (.aZ r 0))) st):=by
 refine OM λl J L m=>?_
 have h:=m.pE p;have w:=m.kW q;generalize z:l.eval x=K at h;have c:i.toNat<rows.length:=by
  rcases asp i.toNat rows.length with h|h
  .exact h
  .simp[asr h]at a
 cases h with
 |slnil l=>simp at c
 |sl rows b o P f val M N O A B C E=>
  have F:r∈rows:=asn a;have I:f=n:=by rw[<-A r F];exact v
  subst I;have G:i<(rows.length:Int):=by omega
  refine⟨.pointer (some ⟨b,o+i.toNat*f+0,none⟩),?_,.m (.d (.aZ r 0 b (o+i.toNat*f) (λj=>val i.toNat j) ?_ ?_ ?_))⟩
  .simp[execOp,z,w,Instr.indexAt,asIntOf,underlying,program,Sem.run,ht.u,dt s.size,u,G,lO]
  .intro j H;have:=B i.toNat j c (by omega);simpa [atd] using this
  .intro j H;exact C i.toNat j c (by omega)
  .intro j d H;exact E i.toNat j r d a H
def Hc{s:ByteArray}(b:st.ev x=some (.m (.d (.str s))))(c:st.ev y=some (.m (.d (.str u)))):
  cL X ⟨dst,.binOp .eql xt x y yt,ty,pos,af,g⟩ st (du (.m (.d (.bool (decide (s=u))))) st):=by
 refine OM λd e f a=>?_
 exact⟨_,by simp only[execOp,a.wk b,a.wk c,eqGuard,binOp,Op.stringOp,sH];simp,.m (.d (.bool _))⟩
def Hd{s:ByteArray}(b:st.ev x=some (.m (.d (.str s))))(c:st.ev y=some (.m (.d (.str u)))):
  cL X ⟨dst,.binOp .neq xt x y yt,ty,pos,af,g⟩ st (du (.m (.d (.bool (!decide (s=u))))) st):=by
 refine OM λd e f a=>?_
 exact⟨_,by simp only[execOp,a.wk b,a.wk c,eqGuard,binOp,Op.stringOp,sH];simp,.m (.d (.bool _))⟩
def x_{s:ByteArray}(b:st.ev x=some (.m (.d (.str s))))(c:st.ev y=some (.m (.d (.str u))))(a:s.size+u.size<=9223372036854775807):
  cL X ⟨dst,.binOp .add xt x y yt,ty,pos,af,g⟩ st (du (.m (.d (.str (s++u)))) st):=by
 refine OM λd e f a=>?_
 have:¬((s.size+u.size:Nat):Int)>IntKind.i64.max:=by
  have:IntKind.i64.max=9223372036854775807:=by decide
  omega
 exact⟨_,by simp only[execOp,a.wk b,a.wk c,eqGuard,binOp,Op.stringOp];simp only[asu this];simp,.m (.d (.str _))⟩
def CX{a:List M}(f:st.ev x=some (.m (.di a)))(b:a[i]?=some m):
  cL X ⟨dst,.extract x i,ty,pos,af,g⟩ st (du (.m m) st):=by
 refine OM λe o p j=>?_
 have h:=j.ev f;generalize k:e.eval x=u at h;cases h with
 |m h=>cases h with
  |di q d l n=>
   have c:i<d.size:=by
    rw[l];rcases asp i a.length with h|h;exact h;simp[asr h]at b
   exact⟨d[i],by simp[execOp,k,Instr.extract,c],.m (n i m _ b (by simp[c]))⟩
end ops
end Go.Mt
namespace Go.Mt
variable{σ:Sg}{X:bW}{st:St}{P:Program}{f:Nat}{ds:List D}{cs ms:List M}{m:M}{OC:Nat->Nat}{a:Act}{post:M->Hp->Prop}{H:Hp}{vs:Array Value}{fn:Func}
def TC.cond{post:Exit->St->Prop}{c:Operand}{x y:Code}{b:Bool}(g:st.ev c=some (.m (.d (.bool b))))
  (ht:b=true->TC X x st post) (hf:b=false->TC X y st post):TC X (.cond c x y) st post:=by
 rintro d w ⟨e,f,rfl,a⟩;refine wp_cond (a.xB g) ?_;cases b
 .exact hf W d _ ⟨e,f,W,a⟩
 .exact ht W d _ ⟨e,f,W,a⟩
def vi:List M->M
 |[m]=>m
 |a=>.di a
def CT(P:Program)(f:Nat)(ms:List M)(H:Hp)(post:M->Hp->Prop):Prop:=
 ∀(a:Sg) (c:Nat->Nat->Prop) (b:Array Value),kQ a c->a.H=H->u_ a ms b->Calls P f b a.w λe d=>∃v r b,e=.returned v/\b.w=d/\post r b.H/\kQ b c/\RM b r v/\dI a b/\bF a b
def PT(P:Program)(f:Nat)(ds:List D)(post:List D->Prop):Prop:=
 ∀(O:Nat->Nat->Prop) (w:World) (a:Array Value),(∀b o,O b o->b<w.heap.size)->F8 O w ds a->Calls P f a w λe a=>∃v r,e=.returned v/\post r/\gg w a/\RM ⟨a,O,λ_=>0,[]⟩ (vi (r.map .d)) v
def CT.mono{a:M->Hp->Prop}(h:CT P f ms H post)(g:∀r g,post r g->a r g):CT P f ms H a:=
 λa i j k l m=>(h a i j k l m).mono λe j ⟨v,r,i,a,b,c,d⟩=>⟨v,r,i,a,b,g _ _ c,d⟩
def RM.EF{τ:Sg}{v:Value}(h:RM σ (vi (ds.map .d)) v)(c:∀b o v,dZ σ.w b o=some v->¬σ.O b o->dZ τ.w b o=some v/\¬τ.O b o):
  RM τ (vi (ds.map .d)) v:=by
 match ds,h with
 |[],h=>cases h with
  |di e f a h=>exact .di _ _ a (by simp)
 |[x],h=>cases h with
  |d h=>exact .d (h.mono c)
 |j::k::l,h=>cases h with
  |di p q g n=>
   refine .di _ _ g λi m v e o=>?_
   have a:=n i m v e o;have f:((j::k::l).map M.d)[i]?=some m:=e;simp only[asF,as0]at f;obtain⟨d,_,rfl⟩:=f;cases a with
   |d a=>exact .d (a.mono c)
def OL{post:List D->Prop}(h:CT P f (ds.map .d) [] λr _=>∃d,r=vi (d.map .d)/\post d):PT P f ds post:=by
 intro O w j n k
 let a:Sg:=⟨w,O,λ_=>0,[]⟩
 have z:kQ a O:=⟨by simp[a],by simp[a],by simp[a],by simp[a],n⟩;have o:u_ a (ds.map .d) j:=by
  refine⟨by simp[k.1],λl m v c i=>?_⟩;simp only[asF,as0]at c;obtain⟨d,p,rfl⟩:=c;exact .d (k.2 l d v p i)
 refine(h a O j z W o).mono ?_;rintro e A ⟨v,r,B,q,s,⟨d,t,u⟩,x,y,C,g⟩;subst t;subst s;refine⟨v,d,q,u,⟨g.os,g.output,g.tape,g.size,λb c=>g.cy b c (by simp[a])⟩,?_⟩;refine y.EF ?_;exactλb o v c i=>⟨c,λa=>i ((x.own b o).2 (.inl a))⟩
def qX(i:Nat):List M->List (Nat×V)
 |[]=>[]
 |m::r=>(i,.m m)::qX (i+1) r
def ya:∀(ms:List M) (i t:Nat) (v:V),get (qX i ms) t=some v->i<=t/\∃m,ms[t-i]?=some m/\v=.m m
 |[],i,t,v,h=>by simp[qX,get]at h
 |m::r,i,t,v,h=>by
  simp only[qX,bM]at h;by_cases e:i=t
  .subst e;simp at h;subst h;exact⟨asj _,m,by simp,rfl⟩
  .rw[asu e]at h;obtain⟨d,a,b,c⟩:=ya r (i+1) t v h;refine⟨by omega,a,?_,c⟩;have:t-i=(t-(i+1))+1:=by omega
   rw[this];simpa using b
def BK(P:Program)(st:St):ResultVar->Option M
 |.tmp t=>match get st.sl t with
  |some (.m m)=>some m
  |_=>none
 |.cell t T=>match get st.sl t with
  |some (.loc u b)=>match get st.bx u with
   |some a=>gS P T a b
   |none=>none
  |some (.m (.d (.aZ a b)))=>(sy P T a b).map .d
  |some (.m (.ref i b))=>match st.H[i]? with
   |some (.box a)=>gS P T a b
   |_=>none
  |_=>none
def tM(P:Program)(st:St):List ResultVar->Option (List M)
 |[]=>some []
 |r::a=>match BK P st r,tM P st a with
  |some m,some a=>some (m::a)
  |_,_=>none
def lP(P:Program)(fn:Func)(st:St):Option M:=(tM P st fn.results.toList).map vi
def uz:∀{cs:List M} {ds:List D},kP cs=some ds->cs=ds.map .d
 |[],ds,h=>by simp[kP]at h;subst h;rfl
 |m::r,ds,h=>by
  cases m<;>simp only[kP]at h<;>try (cases h;done)
  rename_i x;cases a:kP r with
  |none=>simp[a]at h
  |some b=>simp[a]at h;subst h;simp[uz a]
def u_.kP(h:u_ σ cs vs)(a:kP cs=some ds):F8 σ.O σ.w ds vs:=by
 have:=uz a;subst this;refine⟨by simpa using h.1,λi d v b c=>?_⟩;have:=h.2 i (.d d) v (by simp[b]) c;cases this with
 |d h=>exact h
def kV.flat(h:kV σ cs vs):∀(i:Nat) (v:Value),vs[i]?=some v->flat v=true:=by
 intro i v a;have b:i<cs.length:=by
  rw[<-h.1];rcases asp i vs.size with h|h;exact h;simp[asZ h]at a
 exact(h.2 i cs[i] v (by simp[b]) a).2
def oW{t b off:Nat}{a:Array Value}{T:Nat}{o:Nat×Nat}(c:gS P t cs off=some m)
  (p:σ.w.heap[b]?=some (.cells a T o)) (x:cs.length<=a.size) (h:∀(i:Nat) (m:M) (v:Value),cs[i]?=some m->a[i]?=some v->RM σ m v/\flat v=true):
  ∃u,(loadVar t ⟨b,off,none⟩).run P σ.w=.ok u σ.w/\RM σ m u:=by
 have g:∀i,i<a.size->dZ σ.w b i=some (a.getD i undef):=by
  intro i d;simp[dZ,World.cell?,p,d]
 unfold gS at c;split at c
 .rename_i n r k;cases f:Nat.ble (off+n) cs.length with
  |false=>simp[f]at c
  |true=>
   simp only[f,as3,atx]at c;subst c;have y:off+n<=cs.length:=atc f;have s:jQ P t n:=⟨r,k⟩;have l:(a.extract off (off+n)).size=n:=by simp;omega
   have w:(loadCellsFrom ⟨b,off,none⟩ 0 n #[]).run P σ.w=.ok (a.extract off (off+n)) σ.w:=by
    refine kg n 0 _ (by omega) (by simp) ?_;intro j e;rw[l]at e;rw[g _ (by omega)];have q:j<min (off+n) a.size-off:=by omega
    have:off+j<a.size:=by omega
    simp[q,this]
   have d:kV σ ((cs.drop off).take n) (a.extract off (off+n)):=by
    refine⟨by rw[l];simp;omega,λi m v j e=>?_⟩;have q:i<n:=by
     rcases asp i n with h|h
     .exact h
     .rw[asZ (by omega)]at e;cases e
    rw[oe cs off n i q]at j;refine h _ _ _ j ?_;rw[atI]at e;split at e
    .exact e
    .cases e
   refine⟨.agg (a.extract off (off+n)),by simp[loadVar,s.run,dt k,loadCells,w],?_⟩;unfold pack;split
   .rename_i e j;have q:=d;have:=u_.kP ⟨d.1,λi m v a b=>(d.2 i m v a b).1⟩ j;exact .d (.agg e _ this.1 (d.flat) this.2)
   .exact .agg _ _ d.1 d.flat (λi m v a b=>(d.2 i m v a b).1)
 .rename_i d;have e:cA P t:=⟨d⟩;have j:off<cs.length:=by
   rcases asp off cs.length with h|h
   .exact h
   .simp[asr h]at c
  have f:σ.w.cell? ⟨b,off,none⟩=some (a.getD off undef):=g off (by omega);refine⟨a.getD off undef,by simp[loadVar,e.run,f],(h off m _ c (by simp[show off<a.size by omega])).1⟩
 .cases c
def qY(tmps:Array Value):ResultVar->Sem Value
 |.tmp t=>pure (tmps.getD t undef)
 |.cell a t=>do loadVar t (<-asAddr (tmps.getD a undef))
def CY(hi:cC X σ OC st a){r:ResultVar}(h:BK X.P st r=some m):
  ∃u,(qY a.tmps r).run X.P σ.w=.ok u σ.w/\RM σ m u:=by
 unfold BK at h;split at h
 .rename_i t;split at h
  .rename_i g e;injection h with h;subst h
   obtain⟨u,f,c⟩:=hi.slot t _ e;cases c with
   |m c=>exact⟨u,by simp[qY,f],c⟩
  .cases h
 .rename_i t T;split at h
  .rename_i u o e;split at h
   .rename_i i j;obtain⟨x,f,g⟩:=hi.slot t _ e;cases g with
    |loc u o=>
     obtain⟨p,q,k,c⟩:=hi.box u i j;obtain⟨v,l,n⟩:=oW h k (by rw[c.1];exact asj _) c.2;exact⟨v,by simp[qY,f,asAddr,l],n⟩
   .cases h
  .rename_i f i j;obtain⟨x,k,c⟩:=hi.slot t _ j;cases c with
   |m c=>cases c with
    |d c=>cases c with
     |aZ f i b q val n o p=>
      cases e:sy X.P T f i with
      |none=>simp[e]at h
      |some d=>
       simp[e]at h;subst h;obtain⟨v,g,l⟩:=xW e n o p;refine⟨v,?_,.d l⟩;simp only[Instr.loadAt,Instr.sureAddr]at g;simpa [qY,k,asAddr] using g
  .rename_i i p f;split at h
   .rename_i j o;obtain⟨x,g,c⟩:=hi.slot t _ f;cases c with
    |m c=>cases c with
     |ref i p w y=>
      obtain⟨q,s,k,e⟩:=hi.hinv.obj i (.box j) (by rw[hi.hH];exact o);obtain⟨v,l,n⟩:=oW h k (by rw[e.1];exact asj _) e.2;exact⟨v,by simp[qY,g,asAddr,l],n⟩
   .cases h
  .cases h
def w6(hi:cC X σ OC st a):∀{rs:List ResultVar} {ms:List M},tM X.P st rs=some ms->
  ∃us:List Value,(rs.mapM (qY a.tmps)).run X.P σ.w=.ok us σ.w/\u_ σ ms us.toArray
 |[],ms,h=>by simp[tM]at h;subst h;exact⟨[],by simp,rfl,by simp⟩
 |r::rs,ms,h=>by
  simp only[tM]at h;split at h
  .rename_i m n e f;injection h with h;subst h
   obtain⟨u,g,j⟩:=CY hi e;obtain⟨us,k,d⟩:=w6 hi f;refine⟨u::us,?_,?_⟩
   .rw[auI];simp only[Sem.run_bind,Sem.run_pure];rw[g];simp only[Result.andThen_ok];rw[k];simp
   .refine⟨by simpa using d.1,λi l v b c=>?_⟩;cases i with
    |zero=>simp at b c;subst b;subst c;exact j
    |succ i=>simp at b c;exact d.2 i l v b (by simpa using c)
  .cases h
def He(hi:cC X σ OC st a)(h:lP X.P fn st=some m):
  ∃u,(results fn a.tmps).run X.P σ.w=.ok u σ.w/\RM σ m u:=by
 unfold lP at h;cases d:tM X.P st fn.results.toList with
 |none=>simp[d]at h
 |some e=>
  simp[d]at h;subst h;obtain⟨c,g,b⟩:=w6 hi d;have k:c.length=e.length:=by simpa using b.1
  have i:(results fn a.tmps).run X.P σ.w=.ok (if h:c.toArray.size=1 then c.toArray[0]else .tuple c.toArray) σ.w:=by
   have j:results fn a.tmps=(do let f<-fn.results.mapM (qY a.tmps);pure (if h:f.size=1 then f[0]else .tuple f)):=by
    unfold results
    congr 1
   rw[j,auJ];simp only[Sem.run_bind,Functor.map];simp only[Sem.run_bind'];rw[g];simp
  rw[i]
  match e,c,b,k with
  |[],[],b,_=>exact⟨_,W,by rw[au7 (by simp)];exact .di [] #[] W (by simp)⟩
  |[m],[u],b,_=>exact⟨_,W,by simp[vi];exact b.2 0 m u (by simp) (by simp)⟩
  |f::j::e,l::n::c,b,_=>
   refine⟨_,W,?_⟩;rw[au7 (by simp)];exact .di _ _ b.1 b.2
def sI(P:Program)(fn:Func)(post:M->Hp->Prop):Exit->St->Prop
 |.normal,s=>∃m,lP P fn s=some m/\post m s.H
 |.ret,s=>∃m,lP P fn s=some m/\post m s.H
 |_,_=>False
def CT.vj{c:Code}(hf:P.funcs[f]?=some fn)(D:fn.body=some c)
  {n:Nat} (E:fn.ntmps=n) (z:Nat.ble ms.length n=true) (h:∀(a:Sg) (d:Nat->Nat->Prop),TC ⟨P,n,a,d,[]⟩ c ⟨qX 0 ms,[],H⟩ (sI P fn post)):CT P f ms H post:=by
 subst E;replace z:=atc z;intro i j q p F r;refine calls_of_wp hf D ?_
 let X:bW:=⟨P,fn.ntmps,i,j,[]⟩
 have N:∀b o,ou j (λ_=>0) [] b o↔j b o:=by intro b o;simp[ou,get]
 have G:cC X i (λ_=>0) ⟨qX 0 ms,[],H⟩ {tmps:=q++Array.replicate (fn.ntmps-q.size) undef,defers:=[]} :=by
  refine⟨F,W,?_,?_,by simp[get],by simp[get],by simp[get],by simp[get],?_,dI.refl _,bF.refl _⟩
  .have:=r.1;simp[X];omega
  .intro t v l;obtain⟨_,m,g,rfl⟩:=ya ms 0 t v l;simp at g;have k:t<q.size:=by
    rw[r.1];rcases asp t ms.length with h|h;exact h;simp[asr h]at g
   exact⟨q[t],by simp[au0,k],.m (r.2 t m _ g (by simp[k]))⟩
  .exact⟨p.obj,p.inj,λb o=>by rw[p.own];simp[ou,get,X],λi g j d o a=>p.sep i g j d o (by simpa [ou,get] using a),λb o a=>p.mE b o (by simpa [ou,get] using a)⟩
 have M:=h i j _ i.w ⟨i,λ_=>0,rfl,G⟩;refine wp_mono M ?_;rintro e A Q ⟨s,u,d,R,rfl,a⟩;have C:(∃m,lP P fn s=some m/\post m s.H)->A.defers=[]/\∃v,(results fn A.tmps).run P d.w=.ok v d.w/\∃B x k,Ending.returned v=.returned B/\k.w=d.w/\post x k.H/\kQ k j/\RM k x B/\dI i k/\bF i k:=by
  rintro⟨m,J,I⟩;obtain⟨y,K,L⟩:=He a J;have t:dI d {d with O:= λb o=>j b o\/∃(i:Nat) (a:Ob),d.H[i]?=some a/\d.l i=b/\a.jX o} :=by
   refine⟨λb o v g w=>⟨g,λl=>w ?_⟩,λi a g=>⟨⟨a,g⟩,rfl⟩,λi a g=>⟨⟨a,g⟩,rfl⟩,λi a g=>⟨⟨a,g⟩,rfl⟩,λi g=>g,λi i d d a g=>.inr ⟨i,d,a,g,asj _,λ_=>⟨rfl,rfl,λa T w=>⟨a,w,rfl⟩⟩⟩,λ_ h=>⟨_,h⟩⟩;rw[a.hinv.own];rcases l with l|l
   .exact .inl (.inl l)
   .exact .inr l
  refine⟨a.defers,y,K,y,m,{d with O:= λb o=>j b o\/∃(i:Nat) (a:Ob),d.H[i]?=some a/\d.l i=b/\a.jX o},rfl,rfl,by rw[show d.H=s.H from a.hH];exact I,?_,?_,?_,?_⟩
  .exact⟨λi d g=>(a.hinv.obj i d g).cH t (λa a=>a),a.hinv.inj,λb o=>atn,λi d g l o j=>a.hinv.sep i d g l o (.inl j),λb o j=>a.hinv.mE b o (.inl j)⟩
  .exact L.mono t
  .exact a.mono.trans t
  .exact⟨a.cy.os,a.cy.output,a.cy.tape,a.cy.size,a.cy.cy,a.cy.loc⟩
 cases e with
 |normal=>exact C u
 |ret=>exact C u
 |_=>exact u.elim
end Go.Mt
namespace Go.Mt
variable{f:Nat}{ds:List D}{args:List Operand}{RE:Array Nat}{σ:Sg}{post:List D->Prop}{OC:Nat->Nat}{a:Act}{o:Oper}{ms:List M}
def St.ga(st:St):List Operand->Option (List M)
 |[]=>some []
 |x::r=>match st.ev x,St.ga st r with
  |some (.m m),some a=>some (m::a)
  |_,_=>none
def St.hJ(st:St):List Operand->Option (List D)
 |[]=>some []
 |x::r=>match st.ev x,St.hJ st r with
  |some (.m (.d d)),some a=>some (d::a)
  |_,_=>none
section ops
variable{X:bW}{st:St}{dst:Option Nat}{ty:Nat}{pos:String}{af:Array Edge}{g:Option (Nat×Bool)}
def cC.ga(hi:cC X σ OC st a):∀{xs:List Operand} {ms:List M},st.ga xs=some ms->u_ σ ms (xs.map a.eval).toArray
 |[],ms,h=>by simp[St.ga]at h;subst h;exact⟨W,by simp⟩
 |x::r,ms,h=>by
  simp only[St.ga]at h;split at h
  .rename_i m k e f;injection h with h;subst h
   have d:=hi.ga f;have g:=hi.ev e;refine⟨by simpa using d.1,λi j v b c=>?_⟩;cases i with
   |zero=>simp at b c;subst b;subst c;cases g with|m h=>exact h
   |succ i=>simp at b c;exact d.2 i j v b (by simpa using c)
  .cases h
def cC.hJ(hi:cC X σ OC st a):∀{xs:List Operand} {ds:List D},st.hJ xs=some ds->F8 σ.O σ.w ds (xs.map a.eval).toArray
 |[],b,h=>by simp[St.hJ]at h;subst h;exact⟨W,by simp⟩
 |x::r,k,h=>by
  simp only[St.hJ]at h;split at h
  .rename_i m l e f;injection h with h;subst h
   have d:=hi.hJ f;have g:=hi.pE e;refine⟨by simpa using d.1,λi j v b c=>?_⟩;cases i with
   |zero=>simp at b c;subst b;subst c;exact g
   |succ i=>simp at b c;exact d.2 i j v b (by simpa using c)
  .cases h
class bw(P:Program)(f:Nat):Prop where
 run:∀(args:Array Value) (w:World),(callFunc f args).run P w=.ok (.enter f args) w
def BL(st:St)(post:List D->Prop):V->St->Prop:= λv s=>∃r,v=.m (vi (r.map .d))/\post r/\s=st
def cL.IH(h:PT X.P f ds post)
  (l:∀c a d,cC X a d st c->∃g,(execOp c.eval o).run X.P a.w=.ok (.enter f g) a.w/\F8 a.O a.w ds g):cL X o st (BL st post):=by
 intro c a d i;obtain⟨g,j,k⟩:=l c a d i;refine dG.enter j ((h a.O a.w g i.hinv.CV k).mono ?_);rintro e m ⟨v,r,rfl,n,p,q⟩;refine⟨v,W,_,st,{a with w:=m},d,⟨r,rfl,n,rfl⟩,rfl,i.ext p,.m ?_⟩;exact q.EF λb o v j k=>⟨j,k⟩
def II[hf:bw X.P f](b:st.hJ args=some ds)(h:PT X.P f ds post):
  cL X ⟨dst,.call ⟨.value (.func f),args.toArray,RE⟩,ty,pos,af,g⟩ st (BL st post):=by
 refine cL.IH h λa d e c=>⟨(args.map a.eval).toArray,?_,c.hJ b⟩
 simp only[execOp,resolve,Act.eval,Deferred.ofValue,invoke];simp[hf.run]
def AC{r:D}[hf:bw X.P f](d:st.hJ args=some ds)(h:PT X.P f ds (·=[r])):
  cL X ⟨dst,.call ⟨.value (.func f),args.toArray,RE⟩,ty,pos,af,g⟩ st (du (.m (.d r)) st):=by
 intro a b i j;have:=II (dst:=dst) (ty:=ty) (pos:=pos) (af:=af) (g:=g) (RE:=RE) d h a b i j;unfold dG at this⊢;generalize (execOp a.eval _).run X.P b.w=z at*;have c:∀v s,BL st (·=[r]) v s->du (.m (.d r)) st v s:=by
  rintro v s ⟨k,rfl,rfl,rfl⟩;exact⟨W,W⟩
 cases z with
 |ok x p=>
  cases x<;>simp only at this⊢ <;>first
   |(obtain⟨v,s,k,l,m,n⟩:=this;exact⟨v,s,k,l,c _ _ m,n⟩)
   |exact this.mono λe q ⟨u,o,v,s,k,l,m,n⟩=>⟨u,o,v,s,k,l,c _ _ m,n⟩
   |exact this
 |halt x k=>exact this
def Hf{x:Operand}{j:List D}(m:st.ev x=some (.m (.d (.fn f j))))[hf:bw X.P f](n:st.hJ args=some ds)
  (h:PT X.P f (ds++j) post):cL X ⟨dst,.call ⟨.value x,args.toArray,RE⟩,ty,pos,af,g⟩ st (BL st post):=by
 refine cL.IH h λc w z k=>?_
 have l:=k.pE m;have e:=k.hJ n;generalize o:c.eval x=y at l;cases l with
 |fn f A p q r=>
  refine⟨(args.map c.eval).toArray++p,?_,?_⟩
  .simp only[execOp,resolve,o,Deferred.ofValue,invoke];simp[hf.run]
  .refine⟨by have:=e.1;simp at this;simp[this,q],λi d v a b=>?_⟩;have s:(args.map c.eval).toArray.size=ds.length:=e.1;rcases asp i ds.length with t|u
   .rw[asl t]at a;rw[atJ (by omega)]at b;exact e.2 i d v a b
   .rw[ass u]at a;rw[at9 (by omega),s]at b;exact r _ d v a b
def BM{a:List Operand}(c:st.hJ a=some ds):
  cL X ⟨dst,.makeFunc (.func f) #[] a.toArray,ty,pos,af,g⟩ st (du (.m (.d (.fn f ds))) st):=by
 refine OM λb e h d=>?_
 have h:=d.hJ c;exact⟨.func (.func f) #[] (a.map b.eval).toArray,by simp[execOp,Instr.makeFunc],.m (.d (.fn f ds _ h.1 h.2))⟩
def qZ{a:Nat->Nat->Prop}(h:kQ σ a){b:Nat}(c:a b 0):∀(i:Nat) ob,σ.H[i]?=some ob->ob.live->σ.l i≠b:=by
 intro i ob a d e;exact h.sep i ob a d 0 (by rw[e];exact c)
def cL.IK{post:M->Hp->Prop}(h:CT X.P f ms st.H post)
  (p:∀i c d,cC X c d st i->∃j,(execOp i.eval o).run X.P c.w=.ok (.enter f j) c.w/\u_ c ms j):
  cL X o st (λv s=>∃r H',v=.m r/\post r H'/\s=⟨st.sl,st.bx,H'⟩):=by
 intro i c d a;obtain⟨j,q,w⟩:=p i c d a;refine dG.enter q ((h c _ j a.hinv a.hH w).mono ?_);rintro e G ⟨v,r,k,rfl,rfl,x,y,z,l,n⟩;refine⟨v,W,.m r,⟨st.sl,st.bx,k.H⟩,k,d,⟨r,k.H,W,x,W⟩,W,?_,.m z⟩;refine⟨W,a.defers,a.size,λt v g=>let⟨u,A,B⟩:=a.slot t v g;⟨u,A,B.mono l⟩,?_,a.rU,a.sC,a.sD,y,a.mono.trans l,a.cy.trans n⟩;intro t m g;have C:=(a.box t m g).lt trivial;have D:=qZ a.hinv (b:=d t) (.inr ⟨t,m,g,rfl⟩);refine(a.box t m g).cH l λF E=>?_
 rw[n.cy _ C D];exact E
def wm{post:M->Hp->Prop}[hf:bw X.P f](b:st.ga args=some ms)(h:CT X.P f ms st.H post):
  cL X ⟨dst,.call ⟨.value (.func f),args.toArray,RE⟩,ty,pos,af,g⟩ st (λv s=>∃r H',v=.m r/\post r H'/\s=⟨st.sl,st.bx,H'⟩):=by
 refine cL.IK h λa d e c=>⟨(args.map a.eval).toArray,?_,c.ga b⟩
 simp only[execOp,resolve,Act.eval,Deferred.ofValue,invoke];simp[hf.run]
end ops
end Go.Mt
namespace Go.Mt
variable{b T off t o n:Nat}{w:World}{OE PR:Array Value}{cs OS:List M}{x:Obj}{v:Value}{P:Program}{σ:Sg}{m:M}
def c8(w:World)(b:Nat)(x:Obj):World:={w with heap:=w.heap.setIfInBounds b x}
def gm(a:b<w.heap.size):(c8 w b x).heap[b]?=some x:=by simp[c8,a]
def jv{c:Nat}(h:c≠b):(c8 w b x).heap[c]?=w.heap[c]?:=by
 simp[c8,atj (atf h)]
def kB:(c8 w b x).heap.size=w.heap.size:=by simp[c8]
def yb{y:Obj} :c8 (c8 w b x) b y=c8 w b y:=by
 unfold c8
 congr 1
 apply aun;intro i;by_cases h:i=b
 .subst h;simp[Array.getElem?_setIfInBounds]
 .simp[atj (atf h)]
def BN(h:w.heap[b]?=some x):c8 w b x=w:=by
 unfold c8;have:w.heap.setIfInBounds b x=w.heap:=by
  apply aun;intro i;by_cases e:i=b
  .subst e;rw[auo];split<;>simp_all
  .simp[atj (atf e)]
 rw[this]
def CZ(h:w.heap[b]?=some (.cells OE T (0,0))):
  w.setCell ⟨b,o,none⟩ v=c8 w b (.cells (OE.setIfInBounds o v) T (0,0)):=by
 unfold World.setCell c8
 congr 1
 apply aun;intro i;have a:=gj h;by_cases e:i=b
 .subst e;simp only[auv,auz,h,auk,auo,a];simp
 .simp[atj (atf e),auv,atf e]
def eu(a:Array Value)(off:Nat):List Value->Array Value
 |[]=>a
 |v::r=>eu (a.setIfInBounds off v) (off+1) r
def gr:∀(b:List Value) (a:Array Value) (off:Nat),(eu a off b).size=a.size
 |[],a,off=>rfl
 |v::r,a,off=>by simp[eu,gr r]
def ng:∀(b:List Value) (a:Array Value) (off k:Nat),off+b.length<=a.size->
  (eu a off b)[k]?=if off<=k/\k<off+b.length then b[k-off]? else a[k]?
 |[],a,off,k,h=>by simp[eu];intro c d;omega
 |v::r,a,off,k,h=>by
  simp at h;rw[eu,ng r _ (off+1) k (by simp;omega)];by_cases e:k=off
  .subst e;simp;have c:k<a.size:=by omega
   simp[c];intro d;omega
  .by_cases c:off+1<=k/\k<off+1+r.length
   .have d:off<=k/\k<off+(v::r).length:=by simp;omega
    rw[asB c,asB d];have:k-off=(k-(off+1))+1:=by omega
    rw[this];simp
   .have d:¬(off<=k/\k<off+(v::r).length):=by simp;omega
    rw[asu c,asu d];simp[atj (atf e)]
def EG(h:w.heap[b]?=some (.cells OE T (0,0)))(a:o<OE.size)(hf:flat v=true):
  (store ⟨b,o,none⟩ v).run P w=.ok () (c8 w b (.cells (OE.setIfInBounds o v) T (0,0))):=by
 have c:w.cell? ⟨b,o,none⟩=some OE[o]:=by simp[World.cell?,h,a]
 have d:w.frozen? ⟨b,o,none⟩=false:=by simp[World.frozen?,h]
 unfold store;cases v<;>simp[flat]at hf<;>simp[Sem.run,c,d,CZ h]
def nT{P:Program} :∀(c:List Value) (i:Nat) (w:World) (a:Array Value),w.heap[b]?=some (.cells a T (0,0))->off+i+c.length<=a.size->(∀v∈c,flat v=true)->
  (storeCells ⟨b,off,none⟩ c i).run P w=.ok () (c8 w b (.cells (eu a (off+i) c) T (0,0)))
 |[],i,w,a,h,_,_=>by simp[storeCells,eu,BN h]
 |v::r,i,w,a,h,d,c=>by
  simp at d;have d:=EG (P:=P) (o:=off+i) h (by omega) (c v (by simp));rw[storeCells];simp only[Sem.run_bind,lO];rw[d];simp only[Result.andThen_ok];have d:(c8 w b (.cells (a.setIfInBounds (off+i) v) T (0,0))).heap[b]?=some (.cells (a.setIfInBounds (off+i) v) T (0,0)):=gm (gj h);rw[nT r (i+1) _ _ d (by simp;omega) (λv a=>c v (by simp[a]))];rw[yb];rfl
def p8(h:w.heap[b]?=some (.cells OE T (0,0)))(a:fT P t=some v.cells.size)(c:off+v.cells.size<=OE.size)
  (hf:∀(i:Nat) u,v.cells[i]?=some u->flat u=true):
  (storeVar t ⟨b,off,none⟩ v).run P w=.ok () (c8 w b (.cells (eu OE off v.cells.toList) T (0,0))):=by
 unfold storeVar;simp only[Sem.run_bind,dt a,Result.andThen_ok];simp;have:=nT (P:=P) (off:=off) v.cells.toList 0 w OE h (by simpa using c) (by
  intro u d;obtain⟨i,e⟩:=asJ.1 d;exact hf i u (by simpa using e))
 simpa using this
def kV.write{b:List M}{g:Array Value}(h:kV σ cs OE)(j:kV σ b g)(d:dV cs off b=some OS):
  kV σ OS (eu OE off g.toList)/\off+b.length<=cs.length/\OS.length=cs.length:=by
 unfold dV at d;cases f:Nat.ble (off+b.length) cs.length with
 |false=>simp[f]at d
 |true=>
  simp only[f,as3,atx]at d;subst d;have n:=atc f;have o:=h.1;have l:=j.1;refine⟨⟨?_,?_⟩,n,?_⟩
  .rw[gr,h.1];simp;omega
  .intro i m v a c;rw[ng _ _ _ _ (by simp;omega)]at c;simp only[Array.length_toList,l]at c;by_cases e:off<=i/\i<off+b.length
   .rw[asB e]at c;rw[asM,ass (by simp;omega),asl (by simp;omega)]at a;have:i-(List.take off cs).length=i-off:=by simp;omega
    rw[this]at a;exact j.2 _ _ _ a (by simpa using c)
   .rw[asu e]at c;refine h.2 i m v ?_ c;rw[asM]at a;rcases asp i off with k|k
    .rw[asl (by simp;omega),aug k]at a;exact a
    .rw[ass (by simp;omega),ass (by simp;omega),at5]at a;have:off+b.length+(i-(List.take off cs).length-b.length)=i:=by simp;omega
     rw[this]at a;exact a
  .simp;omega
def dI.c8(h:σ.w.heap[b]?=some (.cells OE T (0,0)))(k:PR.size=OE.size)(l:∀o,¬σ.O b o->PR[o]?=OE[o]?):
  dI σ {σ with w:=c8 σ.w b (.cells PR T (0,0))} :=by
 have g:=gj h;refine⟨?_,λi d a=>⟨⟨d,a⟩,rfl⟩,λi d a=>⟨⟨d,a⟩,rfl⟩,λi d a=>⟨⟨d,a⟩,rfl⟩,λi a=>a,?_,λ_ h=>⟨_,h⟩⟩
 .intro c o v f j;refine⟨?_,j⟩;by_cases e:c=b
  .subst e;simp only[dZ,World.cell?,h]at f;simp only[dZ,World.cell?,gm g];simp at f⊢;rw[l o j];exact f
  .rw[nc (jv e)];exact f
 .intro i q r j d a;refine .inr ⟨q,j,d,a,asj _,λ_=>⟨rfl,rfl,λm s f=>?_⟩⟩;by_cases e:σ.l i=b
  .rw[e]at f⊢;rw[h]at f;injection f with f;injection f with n p
   subst n;subst p;exact⟨PR,gm g,k⟩
  .exact⟨m,by rw[jv e];exact f,W⟩
section ops
variable{X:bW}{st:St}{dst:Option Nat}{ty:Nat}{pos:String}{af:Array Edge}{g:Option (Nat×Bool)}
def AD{x:Operand}(d:st.ev x=some (.loc t off))(e:get st.bx t=some cs)(f:gS X.P T cs off=some m):
  cL X ⟨dst,.load T x,ty,pos,af,g⟩ st (du (.m m) st):=by
 refine OM λc n o a=>?_
 have h:=a.ev d;generalize i:c.eval x=u at h;cases h with
 |loc t off=>
  obtain⟨p,q,j,b⟩:=a.box t cs e;obtain⟨v,k,l⟩:=oW f j (by rw[b.1];exact asj _) b.2;exact⟨v,by simp[execOp,i,Instr.loadAt,Instr.sureAddr,k],.m l⟩
def uA{x:Operand}[ht:cA X.P T](a:st.ev x=some (.loc t off))(b:get st.bx t=some cs)(c:cs[off]?=some m):
  cL X ⟨dst,.load T x,ty,pos,af,g⟩ st (du (.m m) st):=
 AD a b (by simp[gS,ht.cell,c])
def yd{x:Operand}{ds:List D}[ht:jQ X.P T n](a:st.ev x=some (.loc t off))(b:get st.bx t=some cs)(c:Nat.ble (off+n) cs.length=true)
  (d:kP ((cs.drop off).take n)=some ds):cL X ⟨dst,.load T x,ty,pos,af,g⟩ st (du (.m (.d (.agg ds))) st):=
 AD a b (by simp[gS,ht.agg,ht.size,c,pack,d])
def bO{a:Type}{l:List (Nat×a)}{k:Nat}{v w:a}(h:get ((k,v)::l) t=some w):(t=k/\w=v)\/(t≠k/\get l t=some w):=by
 rw[bM]at h;by_cases e:k=t
 .rw[asB e]at h;injection h with h;exact .inl ⟨e.symm,h.symm⟩
 .rw[asu e]at h;exact .inr ⟨λh=>e h.symm,h⟩
def cC.KH{OC:Nat->Nat}{a:Act}(hi:cC X σ OC st a)(g:get st.bx t=some cs)(h:σ.w.heap[OC t]?=some (.cells OE T (0,0)))
  (r:PR.size=OE.size) (s:kV {σ with w:=c8 σ.w (OC t) (.cells PR T (0,0))} OS PR):
  cC X {σ with w:=c8 σ.w (OC t) (.cells PR T (0,0))} OC ⟨st.sl,(t,OS)::st.bx,st.H⟩ a:=by
 have x:∀o,σ.O (OC t) o:= λo=>(hi.hinv.own _ _).2 (.inl (.inr ⟨t,cs,g,rfl⟩))
 have k:dI σ {σ with w:=c8 σ.w (OC t) (.cells PR T (0,0))} :=dI.c8 h r (λo c=>(c (x o)).elim);have n:∀b o,ou X.j_ OC ((t,OS)::st.bx) b o↔ou X.j_ OC st.bx b o:=by
  intro b o;constructor
  .rintro(i|⟨u,c,i,j⟩)
   .exact .inl i
   .rcases bO i with⟨rfl,rfl⟩|⟨f,d⟩
    .exact .inr ⟨u,cs,g,j⟩
    .exact .inr ⟨u,c,d,j⟩
  .rintro(i|⟨u,c,i,j⟩)
   .exact .inl i
   .by_cases e:t=u
    .subst e;exact .inr ⟨t,OS,by simp[bM],j⟩
    .exact .inr ⟨u,c,by simp[bM,e,i],j⟩
 have y:=qZ hi.hinv (b:=OC t) (.inr ⟨t,cs,g,rfl⟩);have m:∀u c,get ((t,OS)::st.bx) u=some c->∃A,get st.bx u=some A:=by
  intro u c i;rcases bO i with⟨rfl,rfl⟩|⟨f,d⟩
  .exact⟨cs,g⟩
  .exact⟨c,d⟩
 refine⟨hi.hH,hi.defers,hi.size,λu v f=>let⟨z,d,p⟩:=hi.slot u v f;⟨z,d,p.mono k⟩,?_,?_,?_,?_,?_,hi.mono.trans k,?_⟩
 .intro u c i;rcases bO i with⟨rfl,rfl⟩|⟨f,d⟩
  .exact⟨PR,T,gm (gj h),s⟩
  .refine(hi.box u c d).cH k λl j=>?_
   rw[jv (λe=>f (hi.rU u t c cs d g e))];exact j
 .intro u v c l i j f;obtain⟨_,d⟩:=m u c i;obtain⟨_,p⟩:=m v l j;exact hi.rU u v _ _ d p f
 .intro u c i;obtain⟨_,d⟩:=m u c i;exact hi.sC u _ d
 .intro u c i;obtain⟨_,d⟩:=m u c i;exact hi.sD u _ d
 .refine⟨?_,hi.hinv.inj,λb o=>by rw[n];exact hi.hinv.own b o,λj i l c o f=>hi.hinv.sep j i l c o ((n _ _).1 f),λb o f=>by show b<(c8 _ _ _).heap.size;rw[kB];exact hi.hinv.mE b o ((n _ _).1 f)⟩;intro j i l;by_cases q:i.live
  .refine(hi.hinv.obj j i l).cH k λC B=>?_
   rw[jv (y j i l q)];exact B
  .cases i<;>first|trivial|exact(q trivial).elim
 .refine⟨hi.cy.os,hi.cy.output,hi.cy.tape,by show _<=(c8 _ _ _).heap.size;rw[kB];exact hi.cy.size,?_,hi.cy.loc⟩;intro b i j;rw[jv ?_]
  .exact hi.cy.cy b i j
  .intro e;have:=hi.sD t cs g;omega
def ye{x y:Operand}(p:st.ev x=some (.loc t off))(q:st.ev y=some (.m m))(f:get st.bx t=some cs)
  [r:bY X.P T n] (s:(cellsOf m).length=n) (u:m.iK=true) (v:dV cs off (cellsOf m)=some OS):
  cL X ⟨dst,.store T x y,ty,pos,af,g⟩ st (du (.m .undef) ⟨st.sl,(t,OS)::st.bx,st.H⟩):=by
 intro c a d b;have j:=b.ev p;have h:=b.ev q;generalize z:c.eval x=G at j;cases j with
 |loc t off=>
  cases h with
  |m h=>
   obtain⟨k,l,i,o⟩:=b.box t cs f;have e:=h.cells u;have A:∀o,a.O (d t) o:= λo=>(b.hinv.own _ _).2 (.inl (.inr ⟨t,cs,f,rfl⟩))
   obtain⟨B,C,H⟩:=o.write e v;have D:(c.eval y).cells.size=n:=by rw[e.1,s]
   have E:=p8 (P:=X.P) (t:=T) (off:=off) i (by rw[r.size,D]) (by rw[o.1,e.1];exact C) e.flat;refine dG.skip (by simp only[execOp,z,Instr.storeAt,Instr.sureAddr];simp[E];rfl) ?_;have F:dI a {a with w:=c8 a.w (d t) (.cells (eu k off (c.eval y).cells.toList) l (0,0))} :=dI.c8 i (gr _ _ _) (λo a=>(a (A o)).elim);exact⟨.m .undef,_,{a with w:=c8 a.w (d t) (.cells (eu k off (c.eval y).cells.toList) l (0,0))},d,⟨rfl,rfl⟩,rfl,b.KH f i (gr _ _ _) (B.mono F),.m (.undef _)⟩
end ops
end Go.Mt
namespace Go.Mt
variable{d T:Nat}{z:D}
def iq(t:Nat):List (Nat×V)->Bool
 |[]=>true
 |(_,.loc u _)::r=> !Nat.beq u t&&iq t r
 |_::r=>iq t r
def yf:∀{l:List (Nat×V)} {t k o:Nat},iq t l=true->get l k≠some (.loc t o):=by
 intro l
 induction l with
 |nil=>intro t k o _ h;simp[get]at h
 |cons x l e=>
  intro t k o a h;obtain⟨j,u⟩:=x;cases u with
  |m m=>
   rcases bO h with⟨rfl,f⟩|⟨g,f⟩
   .cases f
   .exact e a f
  |tl g b c d=>
   rcases bO h with⟨rfl,f⟩|⟨i,f⟩
   .cases f
   .exact e a f
  |loc u n=>
   simp only[iq,asH,ats]at a;rcases bO h with⟨rfl,f⟩|⟨i,f⟩
   .injection f with g p;subst g;simp at a
   .exact e a.2 f
def cV(t:Nat):List (Nat×V)->List (Nat×V)
 |[]=>[]
 |(k,.loc u o)::r=>bif Nat.beq u t then(k,.m .undef)::cV t r else(k,.loc u o)::cV t r
 |(k,.m m)::r=>(k,.m m)::cV t r
 |(k,.tl a b c d)::r=>(k,.tl a b c d)::cV t r
def Al:∀{l:List (Nat×V)} {t k:Nat} {v:V},get (cV t l) k=some v->(v=.m .undef/\∃u,get l k=some u)\/(get l k=some v/\∀o,v≠.loc t o):=by
 intro l
 induction l with
 |nil=>intro t k v h;simp[cV,get]at h
 |cons x l a=>
  intro t k v h;obtain⟨n,u⟩:=x;cases u with
  |m m=>
   unfold cV at h;rcases bO h with⟨rfl,rfl⟩|⟨f,g⟩
   .exact .inr ⟨by simp[bM],λo h=>by cases h⟩
   .rw[bM,asu (λe=>f e.symm)];exact a g
  |tl i b c d=>
   unfold cV at h;rcases bO h with⟨rfl,rfl⟩|⟨f,g⟩
   .exact .inr ⟨by simp[bM],λo h=>by cases h⟩
   .rw[bM,asu (λe=>f e.symm)];exact a g
  |loc u o=>
   unfold cV at h;cases f:Nat.beq u t with
   |false=>
    rw[f]at h;rcases bO h with⟨rfl,rfl⟩|⟨g,i⟩
    .exact .inr ⟨by simp[bM],λp h=>by injection h with j q;subst j;simp at f⟩
    .rw[bM,asu (λe=>g e.symm)];exact a i
   |true=>
    rw[f]at h;rcases bO h with⟨rfl,rfl⟩|⟨g,i⟩
    .exact .inl ⟨W,.loc u o,by simp[bM]⟩
    .rw[bM,asu (λe=>g e.symm)];exact a i
section ops
variable{X:bW}{st:St}{dst:Option Nat}{ty:Nat}{pos:String}{af:Array Edge}{g:Option (Nat×Bool)}
def cC.F9{σ:Sg}{OC:Nat->Nat}{a:Act}{d T:Nat}{cs:List M}{l:Array Value}(hi:cC X σ OC st a)(w:kV σ cs l):
  ∃n f,n.w={σ.w with heap:=σ.w.heap.push (.cells l T (0,0))} /\f d=σ.w.heap.size/\cC X n f ⟨cV d st.sl,(d,cs)::st.bx,st.H⟩ a:=by
 let b:=σ.w.heap.size
 let p:World:={σ.w with heap:=σ.w.heap.push (.cells l T (0,0))}
 let f:Nat->Nat:= λu=>if u=d then b else OC u
 have q:gg σ.w p:=gg.alloc _ _
 let y:Nat->Nat->Prop:= λc o=>ou X.j_ f ((d,cs)::st.bx) c o\/∃(i:Nat) (j:Ob),σ.H[i]?=some j/\σ.l i=c/\j.jX o
 let n:Sg:=⟨p,y,σ.l,σ.H⟩
 have x:∀u h,get st.bx u=some h->OC u<b:= λu h k=>(hi.box u h k).lt trivial
 have J:∀c o,c<b->y c o->σ.O c o:=by
  intro c o z k;rw[hi.hinv.own];rcases k with(k|⟨u,h,e,g⟩)|k
  .exact .inl (.inl k)
  .rcases bO e with⟨rfl,rfl⟩|⟨s,t⟩
   .simp[f]at g;omega
   .simp[f,s]at g;exact .inl (.inr ⟨u,h,t,g⟩)
  .exact .inr k
 have r:dI σ n:=by
  refine⟨λc o v e g=>⟨q.cell e,λf=>g (J c o (l9 e) f)⟩,λi cs e=>⟨⟨cs,e⟩,rfl⟩,λi cs e=>⟨⟨cs,e⟩,rfl⟩,λi cs e=>⟨⟨cs,e⟩,rfl⟩,λi e=>e,
   λi g f f cs e=>.inr ⟨g,f,cs,e,asj _,λ_=>⟨rfl,rfl,λl T e=>⟨l,q.heap e,rfl⟩⟩⟩,λ_ k=>⟨_,k⟩⟩
 have D:∀(i:Nat) j,σ.H[i]?=some j->j.live->σ.l i<b:= λi j e g=>(hi.hinv.obj i j e).lt g
 refine⟨n,f,W,by simp[f,b],?_⟩;refine⟨hi.hH,hi.defers,hi.size,?_,?_,?_,?_,?_,?_,hi.mono.trans r,?_⟩
 .intro t v k;rcases Al k with⟨rfl,u,e⟩|⟨e,g⟩
  .obtain⟨z,s,_⟩:=hi.slot t u e;exact⟨z,s,.m (.undef _)⟩
  .obtain⟨z,A,s⟩:=hi.slot t v e;refine⟨z,A,?_⟩;cases s with
   |m s=>exact .m (s.mono r)
   |tl i B C E F G H I=>exact RV.mono (OC:=f) r (.tl i B C E F G H I)
   |loc u o=>
    have B:u≠d:=by rintro rfl;exact g o W
    have:f u=OC u:=by simp[f,B]
    rw[<-this];exact .loc u o
 .intro u h e;rcases bO e with⟨rfl,rfl⟩|⟨s,t⟩
  .refine⟨l,T,?_,w.mono r⟩;simp[f,n,p,b]
  .have:f u=OC u:=by simp[f,s]
   rw[this];exact(hi.box u h t).cH r λx e=>q.heap e
 .intro u v h z e g s;rcases bO e with⟨rfl,rfl⟩|⟨t,A⟩<;>rcases bO g with⟨rfl,rfl⟩|⟨B,C⟩
  .rfl
  .simp[f,B]at s;have:=x v z C;omega
  .simp[f,t]at s;have:=x u h A;omega
  .simp[f,t,B]at s;exact hi.rU u v h z A C s
 .intro u h e o g;rcases bO e with⟨rfl,rfl⟩|⟨s,t⟩
  .simp[f]at g;have:=hi.hinv.mE _ _ (.inl g);simp[b]at this
  .simp[f,s]at g;exact hi.sC u h t o g
 .intro u h e;rcases bO e with⟨rfl,rfl⟩|⟨s,t⟩
  .simp[f];exact hi.cy.size
  .simp[f,s];exact hi.sD u h t
 .refine⟨λi j e=>(hi.hinv.obj i j e).cH r λC z=>q.heap z,hi.hinv.inj,λc o=>atn,?_,?_⟩
  .intro i j e g o s;have E:=D i j e g;rcases s with s|⟨u,h,s,t⟩
   .exact hi.hinv.sep i j e g o (.inl s)
   .rcases bO s with⟨rfl,rfl⟩|⟨A,B⟩
    .simp[f]at t;change b=σ.l i at t;omega
    .simp[f,A]at t;exact hi.hinv.sep i j e g o (.inr ⟨u,h,B,t⟩)
  .intro c o s;have E:p.heap.size=b+1:=by simp[p,b]
   show c<p.heap.size;rcases s with s|⟨u,h,s,t⟩
   .have:=hi.hinv.mE c o (.inl s);omega
   .rcases bO s with⟨rfl,rfl⟩|⟨A,B⟩
    .simp[f]at t;omega
    .simp[f,A]at t;have:=x u h B;omega
 .refine hi.cy.trans ⟨W,W,W,q.size,λc w _=>q.cy c w,λi j e g=>.inr ⟨j,e,g,rfl⟩⟩
class xC(P:Program)(t:Nat)(z:outParam D):Prop where
 run:∃v,(∀w,(zeroValue t).run P w=.ok v w)/\qW v=some z
theorem gF{P:Program}{t:Nat}(h:tK P t=some z):xC P t z:=by
 unfold tK at h;split at h
 .rename_i i a;split at h
  .rename_i v b;exact⟨v,λw=>by simp[zeroValue,typeInfo,program,Sem.run,a,b],h⟩
  .cases h
 .cases h
def AE[b:xC X.P T z]:
  cL X ⟨some d,.alloc T,ty,pos,af,g⟩ st (du (.loc d 0) ⟨cV d st.sl,(d,(bg z).map .d)::st.bx,st.H⟩):=by
 intro o a p c;obtain⟨v,e,f⟩:=b.run;have h:RM a (.d z) v:=.d (ff f);have i:=h.cells W;obtain⟨j,k,l,m,n⟩:=c.F9 (d:=d) (T:=T) i;refine dG.value (u:=.pointer (some ⟨a.w.heap.size,0,none⟩)) (w':={a.w with heap:=a.w.heap.push (.cells v.cells T (0,0))}) ?_ ⟨.loc d 0,_,j,k,⟨rfl,rfl⟩,l,n,?_⟩
 .simp[execOp,Instr.alloc,e,newVar,newRow,newObj,Sem.run]
 .rw[<-m];exact .loc d 0
def IL{x:Operand}{m:M}(e:st.ev x=some (.m m))(f:m.iK=true):
  cL X ⟨some d,.box T x,ty,pos,af,g⟩ st (du (.loc d 0) ⟨cV d st.sl,(d,cellsOf m)::st.bx,st.H⟩):=by
 intro c a p b;have h:=b.ev e;cases h with
 |m h=>
  have i:=h.cells f;obtain⟨j,k,l,n,o⟩:=b.F9 (d:=d) (T:=T) i;refine dG.value (u:=.pointer (some ⟨a.w.heap.size,0,none⟩)) (w':={a.w with heap:=a.w.heap.push (.cells (c.eval x).cells T (0,0))}) ?_ ⟨.loc d 0,_,j,k,⟨rfl,rfl⟩,l,o,?_⟩
  .simp[execOp,Instr.box,newVar,newRow,newObj,Sem.run]
  .rw[<-n];exact .loc d 0
end ops
end Go.Mt
namespace Go.Mt
variable{T n:Nat}{σ:Sg}{w:World}{parts:List (Nat×Operand)}{ms:List (Nat×M)}{cs:List M}{rows:List (List D)}
def og:∀(b:List Value) (k off:Nat) (a:Array Value),
  (b.zipIdx k).foldl (λcs (x:Value×Nat)=>cs.setIfInBounds (off+x.2) x.1) a=eu a (off+k) b
 |[],k,off,a=>rfl
 |v::r,k,off,a=>by
  rw[List.zipIdx_cons,aty,og r (k+1) off];rfl
def gu(a:Nat->Option (Nat×Nat))(cs:List M):List (Nat×M)->Option (List M)
 |[]=>some cs
 |(i,m)::r=>match a i with
  |some (b,c)=>bif (Nat.beq (cellsOf m).length c&&m.iK)then(match dV cs b (cellsOf m)with
   |some b=>gu a b r
   |none=>none)else none
  |none=>none
def qp{t:Nat->Option (Nat×Nat)} :∀{parts:List (Nat×M)} {f:List (Nat×Value)} {cs OS:List M} {a:Array Value},kV σ cs a->
  parts.length=f.length->(∀(k:Nat) p q,parts[k]?=some p->f[k]?=some q->p.1=q.1/\RM σ p.2 q.2)->gu t cs parts=some OS->
  ∃e,Instr.fill t a f=some e/\kV σ OS e
 |[],[],cs,OS,a,h,_,_,c=>by simp[gu]at c;subst c;exact⟨a,W,h⟩
 |p::E,q::F,cs,OS,a,i,u,j,c=>by
  obtain⟨C,m⟩:=p;obtain⟨D,v⟩:=q;obtain⟨l,n⟩:=j 0 _ _ W W;simp at l n;subst l;unfold gu at c;split at c
  .rename_i h s w;cases d:(Nat.beq (cellsOf m).length s&&m.iK)with
   |false=>simp[d]at c
   |true=>
    simp only[d,as3]at c;simp only[asH]at d;have x:=asy d.1;split at c
    .rename_i G y;have g:=n.cells d.2;obtain⟨z,H,I⟩:=i.write g y;obtain⟨e,o,A⟩:=qp z (by simpa using u) (λk p q c b=>j (k+1) p q (by simpa using c) (by simpa using b)) c;refine⟨e,?_,A⟩;unfold Instr.fill;simp only[w];have r:v.cells.size=s:=by rw[g.1,x]
     have B:¬(h+v.cells.size>a.size):=by rw[g.1,i.1];omega
     rw[asu (by simp[r];rw[r]at B;omega)];have:v.cells.zipIdx.foldl (λcs (x:Value×Nat)=>cs.setIfInBounds (h+x.2) x.1) a=eu a h v.cells.toList:=by
      rw[<-Array.foldl_toList,Array.toList_zipIdx,og];rfl
     rw[<-this]at o;exact o
    .cases c
  .cases c
 |[],_::_,_,_,_,_,c,_,_=>by simp at c
 |_::_,[],_,_,_,_,c,_,_=>by simp at c
def qt(P:Program)(t:Nat):Option (List (Nat×Nat)):=
 match P.underlying t with
 |some (.struct a)=>a.toList.mapM λf=>(fT P f.type).map λn=>(f.offset,n)
 |_=>none
class kC(P:Program)(t:Nat)(BO:outParam (List (Nat×Nat)))(z:outParam (List D)):Prop where
 BO:qt P t=some BO
 zero:tK P t=some (.agg z)
def vk{P:Program} :∀{a:List Field} {ps:List (Nat×Nat)},(a.mapM λf=>(fT P f.type).map λn=>(f.offset,n))=some ps->
  (a.mapM λf=>(do pure (f.offset,<-sizeOf f.type):Sem (Nat×Nat))).run P w=.ok ps w
 |[],ps,h=>by simp at h;subst h;simp
 |f::a,ps,h=>by
  rw[auI]at h;cases b:fT P f.type with
  |none=>simp[b]at h
  |some n=>
   simp only[b,auk,Option.bind_eq_bind,auO]at h;cases c:(a.mapM λf=>(fT P f.type).map λn=>(f.offset,n))with
   |none=>simp[c]at h
   |some d=>
    simp[c]at h;subst h;rw[auI];simp only[Sem.run_bind,dt b,Result.andThen_ok,Sem.run_pure,vk c]
def ej(st:St):List (Nat×Operand)->Option (List (Nat×M))
 |[]=>some []
 |(i,x)::r=>match st.ev x,ej st r with
  |some (.m m),some a=>some ((i,m)::a)
  |_,_=>none
section ops
variable{X:bW}{st:St}{dst:Option Nat}{ty:Nat}{pos:String}{af:Array Edge}{g:Option (Nat×Bool)}
def cC.ej{OC:Nat->Nat}{a:Act}(hi:cC X σ OC st a):∀{xs:List (Nat×Operand)} {ms:List (Nat×M)},ej st xs=some ms->
  ms.length=(xs.map λp=>(p.1,a.eval p.2)).length/\∀(k:Nat) p q,ms[k]?=some p->(xs.map λp=>(p.1,a.eval p.2))[k]?=some q->p.1=q.1/\RM σ p.2 q.2
 |[],ms,h=>by simp[Mt.ej]at h;subst h;simp
 |(j,x)::r,ms,h=>by
  simp only[Mt.ej]at h;split at h
  .rename_i m l d e;injection h with h;subst h
   obtain⟨f,g⟩:=hi.ej e;have i:=hi.ev d;refine⟨by simpa using f,λk p q b c=>?_⟩;cases k with
   |zero=>simp at b c;subst b;subst c;cases i with|m h=>exact⟨W,h⟩
   |succ k=>simp at b;exact g k p q b (by simpa using c)
  .cases h
def wo{ps:List (Nat×Nat)}{z:List D}[ht:kC X.P T ps z](f:ej st parts=some ms)
  (hf:gu (λi=>ps[i]?) (z.map .d) ms=some cs):cL X ⟨dst,.build T parts.toArray,ty,pos,af,g⟩ st (du (.m (pack cs)) st):=by
 refine OM λa d A h=>?_
 obtain⟨j,k⟩:=h.ej f;have l:∃v,(∀w,(zeroValue T).run X.P w=.ok v w)/\qW v=some (.agg z):=(gF ht.zero).run;obtain⟨v,n,o⟩:=l;have p:kV d (z.map .d) v.cells:=(RM.d (ff o):RM d (.d (.agg z)) v).cells W;obtain⟨q,r,c⟩:=qp p j k hf;refine⟨.agg q,?_,.m ?_⟩
 .have e:=ht.BO;unfold qt at e;split at e
  .rename_i y s;have t:=vk (w:=d.w) e;have u:(y.mapM λf=>(do pure (f.offset,<-sizeOf f.type):Sem (Nat×Nat))).run X.P d.w=.ok ps.toArray d.w:=by
    rw[auJ];simp only[Functor.map,Sem.run_bind'];rw[t];rfl
   simp only[execOp,Instr.build];simp only[Sem.run_bind,n,Result.andThen_ok,underlying,program,Sem.run,s,Sem.run_pure];simp only[u,Result.andThen_ok];have:(Array.map (λx:Nat×Operand=>match x with|(i,x)=>(i,a.eval x)) parts.toArray).toList=parts.map λp=>(p.1,a.eval p.2):=by simp
   simp only[this];have x:(λi:Nat=>ps.toArray[i]?)= λi:Nat=>ps[i]?:=by funext i;simp
   rw[x,r];simp
  .cases e
 .unfold pack;split
  .rename_i e s;have:=u_.kP ⟨c.1,λi m v a b=>(c.2 i m v a b).1⟩ s;exact .d (.agg e _ this.1 c.flat this.2)
  .exact .agg _ _ c.1 c.flat (λi m v a b=>(c.2 i m v a b).1)
def ey(n len:Nat)(z:List D):List M:=(List.range (len*n)).map λi=>.d (z.getD (i%z.length) default)
def pJ:∀{k:Nat} {cs:List M} {rows:List (List D)},chunk n k cs=some rows->cs.length=k*n->
  rows.length=k/\(∀r∈rows,r.length=n)/\∀(i j:Nat) r d,rows[i]?=some r->r[j]?=some d->cs[i*n+j]?=some (.d d)
 |0,[],rows,h,_=>by simp[chunk]at h;subst h;simp
 |0,_::_,rows,h,_=>by simp[chunk]at h
 |k+1,cs,rows,h,c=>by
  unfold chunk at h;split at h
  .rename_i r u l m;injection h with h;subst h
   have o:(cs.drop n).length=k*n:=by simp[c,atT]
   obtain⟨p,q,s⟩:=pJ m o;have f:=uz l;have g:r.length=n:=by
    have:=atB List.length f;simp at this;rw[c,atT]at this;omega
   refine⟨by simp[p],?_,?_⟩
   .intro x a;simp at a;rcases a with rfl|a
    .exact g
    .exact q x a
   .intro i j x d a b;cases i with
    |zero=>
     simp at a;subst a;have t:j<n:=by rw[<-g];rcases asp j r.length with h|h;exact h;simp[asr h]at b
     have:(cs.take n)[j]?=some (.d d):=by rw[f];simp[b]
     rw[aug t]at this;simpa using this
    |succ i=>
     simp at a;have:=s i j x d a b;rw[at5]at this;have e:(i+1)*n+j=n+(i*n+j):=by rw[atT];omega
     rw[e];exact this
  .cases h
def gL.IM{O:Nat->Nat->Prop}{k T:Nat}{a:Array Value}(u:0<n)(m:∀b o,O b o->b<w.heap.size)(o:rows.length=k)(c:∀r∈rows,r.length=n)
  (p:a.size=k*n) (q:k<=140737488355328) (h:∀(i j:Nat) r d v,rows[i]?=some r->r[j]?=some d->a[i*n+j]?=some v->gL O w d v/\flat v=true):
  gL O {w with heap:=w.heap.push (.cells a T (0,0))} (.sl rows) (.slice (some ⟨w.heap.size,0,none⟩) k k):=by
 subst o;by_cases g:rows=[]
 .subst g;exact .slnil _
 .have e:∀i j,i<rows.length->j<n->i*n+j<a.size:=by
   intro i j f l;rw[p]
   calc i*n+j<i*n+n:=by omega
    _=(i+1)*n:=by rw[atT]
    _<=rows.length*n:=as5 _ f
  refine .sl rows w.heap.size 0 rows.length n (λi j=>a.getD (i*n+j) undef) g (asj _) q c ?_ ?_ ?_
  .intro i j f l;refine⟨?_,λa=>by have:=m _ _ a;omega⟩;rw[atH,xU];simp[e i j f l]
  .intro i j f l;have s:rows[i].length=n:=c _ (asE f);exact(h i j rows[i] (rows[i])[j] _ (by simp[f]) (by simp[s,l]) (by simp[e i j f l])).2
  .intro i j r d f l;have s:i<rows.length:=by rcases asp i rows.length with h|h;exact h;simp[asr h]at f
   have t:j<n:=by
    rw[<-c r (asn f)];rcases asp j r.length with h|h;exact h;simp[asr h]at l
   have:=(h i j r d (a.getD (i*n+j) undef) f l (by simp[e i j s t])).1;exact this.mono λb o v a c=>⟨(gg.alloc w _).cell a,c⟩
def yg{e len:Nat}{z:D}[ht:aU X.P T e][q:bY X.P e n][A:gN X.P e z]
  (B:Nat.blt 0 n=true) (r:(bg z).length=n) (R:Nat.ble (len*n) 16777216=true) (C:ej st parts=some ms)
  (hf:gu (λi=>some (i*n,n)) (ey n len (bg z)) ms=some cs) (S:chunk n len cs=some rows):
  cL X ⟨dst,.buildSlice T len parts.toArray,ty,pos,af,g⟩ st (du (.m (.d (.sl rows))) st):=by
 refine cL.grow λa c U s=>?_
 have k:=bN B;have Y:=atc R;obtain⟨E,F⟩:=s.ej C;obtain⟨v,G,H⟩:=(gF A.zero).run;have t:kV c ((bg z).map .d) v.cells:=(RM.d (ff H):RM c (.d z) v).cells W;have I:v.cells.size=n:=by rw[t.1];simpa using r
 have J:kV c (ey n len (bg z)) ((Array.range (len*n)).map λi=>v.cells[i%v.cells.size]!):=by
  refine⟨by simp[ey],λi m K j f=>?_⟩;have o:i<len*n:=by
   rcases asp i (len*n)with h|h
   .exact h
   .rw[asZ (by simpa using h)]at f;cases f
  have L:i%n<n:=atY _ k;have p:i%n<(bg z).length:=by omega
  simp[ey,o,r]at j;simp[o,I]at f;have y:i%n<v.cells.size:=by omega
  subst j;subst f;refine t.2 (i%n) _ _ ?_ ?_
  .simp[aso p]
  .simp[y]
 obtain⟨u,l,w⟩:=qp J E F hf;have x:cs.length=len*n:=by
  have K:∀{f:List (Nat×M)} {a b:List M},gu (λi=>some (i*n,n)) a f=some b->b.length=a.length:=by
   intro f
   induction f with
   |nil=>intro a b h;simp[gu]at h;subst h;rfl
   |cons y f L=>
    intro a b h;obtain⟨i,m⟩:=y;unfold gu at h;simp only at h;cases p:(Nat.beq (cellsOf m).length n&&m.iK)with
    |false=>simp[p]at h
    |true=>
     simp only[p,as3]at h;split at h
     .rename_i V j;rw[L h];unfold dV at j;cases o:Nat.ble (i*n+(cellsOf m).length) a.length with
      |false=>simp[o]at j
      |true=>
       simp only[o,as3,atx]at j;subst j;have:=atc o;simp;omega
     .cases h
  rw[K hf];simp[ey]
 obtain⟨N,O,P⟩:=pJ S x;have Q:u.size=len*n:=by rw[w.1,x]
 refine⟨.slice (some ⟨c.w.heap.size,0,none⟩) len len,{c.w with heap:=c.w.heap.push (.cells u e (0,0))},?_,gg.alloc _ _,.m (.d (gL.IM k s.hinv.CV N O Q (by have:=atU len k;omega) ?_))⟩
 .have:(Array.map (λx:Nat×Operand=>match x with|(i,x)=>(i,a.eval x)) parts.toArray).toList=parts.map λp=>(p.1,a.eval p.2):=by simp
  have j:¬(len*n>2^24):=by omega
  by_cases f:len*n=0
  .have o:len=0:=by
    rcases aul.1 f with h|h
    .exact h
    .omega
   subst o;have h:((Array.range (0*n)).map λi=>v.cells[i%v.cells.size]!)= #[]:=by simp
   rw[h]at l;simp only[execOp,Instr.buildSlice,Sem.run_bind,underlying,program,Sem.run,ht.u,Sem.run_pure,Result.andThen_ok,dt q.size,Sem.run_ite,f,auz,this];have y:Array.range 0=(#[]:Array Nat):=by decide
   simp only[y,auY];rw[l];simp[newRow,newObj,Sem.run]
  .simp only[execOp,Instr.buildSlice,Sem.run_bind,underlying,program,Sem.run,ht.u,Sem.run_pure,Result.andThen_ok,dt q.size,Sem.run_ite,j,aup,f,G,this];rw[l];simp[newRow,newObj,Sem.run]
 .intro i j o d f y K p;have:=w.2 _ _ f (P i j o d y K) p;refine⟨?_,this.2⟩;cases this.1 with
  |d h=>exact h
end ops
end Go.Mt
namespace Go.Mt
variable{x y:Operand}{n xt yt t T off e f j:Nat}{cs:List M}{sl O5:List (Nat×V)}{m:Int}{bx Po:List (Nat×List M)}{H:Hp}{kk:IntKind}{r:D}{args:List Operand}{RE:Array Nat}{ps:List (Nat×Nat)}{v:V}{dst:Option Nat}{op:Op}{w:Bool}{rows:List (List D)}{ds:List D}{ms:List (Nat×M)}{parts:List (Nat×Operand)}{st:St}{X:bW}{c:Code}{post:Exit->St->Prop}
def wr:List M->Nat->List M->Option (List M)
 |a,0,[]=>some a
 |_::a,0,n::b=>match wr a 0 b with
  |some r=>some (n::r)
  |none=>none
 |c::a,d+1,b=>match wr a d b with
  |some r=>some (c::r)
  |none=>none
 |_,_,_=>none
def sJ:∀{cs:List M} {off:Nat} {a OS:List M},wr cs off a=some OS->dV cs off a=some OS
 |cs,0,[],OS,h=>by
  simp[wr]at h;subst h;have:Nat.ble 0 cs.length=true:=atl (as2 _);simp[dV,this]
 |c::cs,0,n::a,OS,h=>by
  simp only[wr]at h;cases d:wr cs 0 a with
  |none=>simp[d]at h
  |some r=>
   simp[d]at h;subst h;have b:=sJ d;unfold dV at b⊢;cases f:Nat.ble (0+a.length) cs.length with
   |false=>rw[f]at b;cases b
   |true=>
    have i:=atc f;have g:Nat.ble (0+(n::a).length) (c::cs).length=true:=atl (by simp;omega);simp only[f,as3,atx]at b;simp only[g,as3,atx];simp at b⊢;exact b
 |c::cs,off+1,a,OS,h=>by
  have g:(match wr cs off a with|some r=>some (c::r)|none=>none)=some OS:=by
   cases a<;>simpa [wr] using h
  cases d:wr cs off a with
  |none=>simp[d]at g
  |some r=>
   simp[d]at g;subst g;have b:=sJ d;unfold dV at b⊢;cases f:Nat.ble (off+a.length) cs.length with
   |false=>simp[f]at b
   |true=>
    have j:=atc f;have i:Nat.ble (off+1+a.length) (c::cs).length=true:=atl (by simp;omega);simp only[f,as3,atx]at b;simp only[i,as3,atx];have e:off+1+a.length=(off+a.length)+1:=by omega
    rw[e,atZ,List.drop_succ_cons,atp,atp,b]
 |[],0,_::_,OS,h=>by simp[wr]at h
 |[],_+1,a,OS,h=>by cases a<;>simp[wr]at h
def sub{a:Type} :List a->Nat->Nat->Option (List a)
 |_,0,0=>some []
 |c::a,0,n+1=>match sub a 0 n with
  |some r=>some (c::r)
  |none=>none
 |_::a,b+1,n=>sub a b n
 |[],_,_=>none
theorem sub_eq{b:Type} :∀{cs:List b} {off n:Nat} {ds:List b},sub cs off n=some ds->off+n<=cs.length/\(cs.drop off).take n=ds
 |cs,0,0,ds,h=>by simp[sub]at h;subst h;simp
 |c::cs,0,n+1,ds,h=>by
  simp only[sub]at h;cases a:sub cs 0 n with
  |none=>simp[a]at h
  |some r=>
   simp[a]at h;subst h;obtain⟨e,d⟩:=sub_eq a;refine⟨by simp;omega,?_⟩;simp at d⊢;exact d
 |c::cs,off+1,n,ds,h=>by
  have a:sub cs off n=some ds:=by cases n<;>simpa [sub] using h
  obtain⟨d,e⟩:=sub_eq a;exact⟨by simp;omega,by grind⟩
 |[],0,n+1,ds,h=>by simp[sub]at h
 |[],off+1,n,ds,h=>by cases n<;>simp[sub]at h
def ug:List D->Option (List M)
 |[]=>some []
 |d::r=>match ug r with
  |some a=>some (.d d::a)
  |none=>none
def qu:∀{ds:List D} {ms:List M},ug ds=some ms->ms=ds.map .d
 |[],ms,h=>by simp[ug]at h;subst h;rfl
 |d::r,ms,h=>by
  simp only[ug]at h;cases a:ug r with
  |none=>simp[a]at h
  |some x=>simp[a]at h;subst h;simp[qu a]
def iB:M->Option (List M)
 |.d (.agg a)=>ug a
 |.agg a=>some a
 |.undef=>none
 |.di _=>none
 |m=>some [m]
def cW{m:M}(h:iB m=some cs):cellsOf m=cs/\m.iK=true:=by
 unfold iB at h;split at h
 .rename_i a;rw[qu h];exact⟨W,W⟩
 .injection h with h;subst h;exact⟨W,W⟩
 .cases h
 .cases h
 .rename_i a b c e;injection h with h;subst h
  cases m with
  |d x=>cases x<;>first|exact⟨rfl,rfl⟩|exact absurd W (a _)
  |undef=>exact absurd W c
  |di f=>exact absurd W (e _)
  |agg cs=>exact absurd W (b _)
  |_=>exact⟨W,W⟩
def uB(ps:List (Nat×Nat))(cs:List M):List (Nat×M)->Option (List M)
 |[]=>some cs
 |(i,m)::r=>match ps[i]?,iB m with
  |some (b,c),some a=>bif Nat.beq a.length c then(match wr cs b a with
   |some a=>uB ps a r
   |none=>none)else none
  |_,_=>none
def tN:∀{parts:List (Nat×M)} {cs OS:List M},uB ps cs parts=some OS->gu (λi=>ps[i]?) cs parts=some OS
 |[],cs,OS,h=>by simpa [uB,gu] using h
 |(i,m)::r,cs,OS,h=>by
  simp only[uB]at h;split at h
  .rename_i l j g b c;obtain⟨d,e⟩:=cW c;cases a:Nat.beq g.length j with
   |false=>simp[a]at h
   |true=>
    simp only[a,as3]at h;split at h
    .rename_i k f;simp only[gu,b,d,e,a,au8,as3,sJ f];exact tN h
    .cases h
  .cases h
def oX:Nat->List (Nat×M)->Option (List (List D))
 |_,[]=>some []
 |k,(i,.d d)::r=>bif Nat.beq i k then(match oX (k+1) r with
  |some a=>some (bg d::a)
  |none=>none)else none
 |_,_=>none
def ij(sl:List (Nat×V)):List (Nat×Operand)->Option (List (Nat×M))
 |[]=>some []
 |(i,x)::r=>match bh sl x,ij sl r with
  |some (.m m),some a=>some ((i,m)::a)
  |_,_=>none
def iL:∀{ps:List (Nat×Operand)},ej ⟨sl,bx,H⟩ ps=ij sl ps
 |[]=>rfl
 |(i,x)::r=>by simp only[ej,ij,iL (ps:=r)];rfl
def yh(j:0<n):∀{ms:List (Nat×M)} {k:Nat} {rows:List (List D)} {pre VD:List M},oX k ms=some rows->(∀r∈rows,r.length=n)->pre.length=k*n->VD.length=ms.length*n->
  gu (λi=>some (i*n,n)) (pre++VD) ms=some (pre++(rows.map λr=>r.map M.d).flatten)/\rows.length=ms.length
 |[],k,rows,pre,VD,h,_,_,a=>by
  simp[oX]at h;subst h;simp at a;subst a;simp[gu]
 |(i,m)::r,k,rows,pre,VD,h,g,b,f=>by
  cases m with
  |d d=>
   simp only[oX]at h;cases c:Nat.beq i k with
   |false=>simp[c]at h
   |true=>
    have:=asy c;subst this;simp only[c,as3]at h;split at h
    .rename_i v e;injection h with h;subst h
     have l:(bg d).length=n:=g _ (by simp);have w:n<=VD.length:=by rw[f];simp[atT]
     have a:(cellsOf (.d d)).length=n:=by simp[cellsOf,l]
     have o:dV (pre++VD) (i*n) (cellsOf (.d d))=some ((pre++cellsOf (.d d))++VD.drop n):=by
      unfold dV;rw[atl (by simp[a];omega)];have p:List.take (i*n) (pre++VD)=pre:=by rw[<-b];simp
      have q:List.drop (i*n+n) (pre++VD)=List.drop n VD:=by
       rw[<-b,List.drop_append,auU (by omega)];simp
      simp only[as3,a,p,q]
     obtain⟨s,t⟩:=yh j (k:=i+1) (pre:=pre++cellsOf (.d d)) (VD:=VD.drop n) e (λr e=>g r (by simp[e])) (by simp[b,a,atT]) (by simp[f,atT]);refine⟨?_,by simp[t]⟩;unfold gu;have u:Nat.beq (cellsOf (.d d)).length n=true:=by rw[a];exact auH n
     simp only[u,M.iK,au8,as3,o];rw[s];simp[cellsOf]
    .cases h
  |_=>simp[oX]at h
theorem sL{n:Nat} :∀{rows:List (List D)},(∀r∈rows,r.length=n)->chunk n rows.length (rows.map λr=>r.map M.d).flatten=some rows
 |[],_=>rfl
 |r::a,h=>by
  have c:=h r (by simp);have f:∀l:List D,kP (l.map .d)=some l:=by
   intro l;induction l with
   |nil=>rfl
   |cons x l b=>simp[kP,b]
  have b:=sL (n:=n) (rows:=a) (λr c=>h r (by simp[c]));show chunk n (a.length+1) ((r.map M.d)++(a.map λr=>r.map M.d).flatten)=_;unfold chunk;have d:((r.map M.d)++(a.map λr=>r.map M.d).flatten).take n=r.map M.d:=by
   grind
  have e:((r.map M.d)++(a.map λr=>r.map M.d).flatten).drop n=(a.map λr=>r.map M.d).flatten:=by
   grind
  rw[d,e,f,b]
def l_(n:Nat):List (List D)->Bool
 |[]=>true
 |r::a=>Nat.beq r.length n&&l_ n a
def uC:∀{rows:List (List D)},l_ n rows=true->∀r∈rows,r.length=n
 |[],_,r,a=>by cases a
 |x::b,h,r,a=>by
  simp only[l_,asH]at h;cases a with
  |head=>exact asy h.1
  |tail _ a=>exact uC h.2 r a
def hJ(sl:List (Nat×V)):List Operand->Option (List D)
 |[]=>some []
 |x::r=>match bh sl x,hJ sl r with
  |some (.m (.d d)),some a=>some (d::a)
  |_,_=>none
def ga(sl:List (Nat×V)):List Operand->Option (List M)
 |[]=>some []
 |x::r=>match bh sl x,ga sl r with
  |some (.m m),some a=>some (m::a)
  |_,_=>none
def sM:∀{ps:List Operand},(⟨sl,bx,H⟩:St).hJ ps=hJ sl ps
 |[]=>rfl
 |x::r=>by simp only[St.hJ,hJ,sM (ps:=r)];rfl
def nA:∀{ps:List Operand},(⟨sl,bx,H⟩:St).ga ps=ga sl ps
 |[]=>rfl
 |x::r=>by simp only[St.ga,ga,nA (ps:=r)];rfl
section rules
variable{X:bW}{ops:Array Oper}{rest:List Oper}{post:St->Prop}{sl:List (Nat×V)}{bx:List (Nat×List M)}{H:Hp}{d ty:Nat}{pos:String}{af:Array Edge}
def Pf{o:Oper}{H':Hp}(a:o.guard=none)(b:o.dst=some d)(c:Nat.blt d X.n=true)(h:cL X o ⟨sl,bx,H⟩ (du v ⟨O5,Po,H'⟩))
  (k:TL X ops rest ⟨(d,v)::O5,Po,H'⟩ post):TL X ops (o::rest) ⟨sl,bx,H⟩ post:=
 TL.lY (by simp[jP,a]) b c h k
def aC(f:jP ops ⟨dst,op,ty,pos,af,some (j,w)⟩ ⟨sl,bx,H⟩=some true)
  (k:TL X ops (⟨dst,op,ty,pos,af,none⟩::rest) ⟨sl,bx,H⟩ post):TL X ops (⟨dst,op,ty,pos,af,some (j,w)⟩::rest) ⟨sl,bx,H⟩ post:=by
 rintro a h ⟨d,i,l,b⟩;have:=k a h ⟨d,i,l,b⟩;unfold wpList at this⊢;rw[asB (b.wanted f)];rw[asB (by simp[Region.wanted])]at this;have e:∀g:Option (Nat×Bool),execOp a.eval ⟨dst,op,ty,pos,af,g⟩=execOp a.eval ⟨dst,op,ty,pos,af,none⟩:=by
  intro g;cases op<;>rfl
 rcases this with this|⟨c,m⟩
 .left;unfold Oper.wp at this⊢;rw[e];exact this
 .right;refine⟨?_,m⟩;unfold Oper.asks at c⊢;rw[e];exact c
def aH(a:jP ops ⟨some d,op,ty,pos,af,some (j,w)⟩ ⟨sl,bx,H⟩=some false)(b:Nat.blt d X.n=true)
  (k:TL X ops rest ⟨(d,.m (.di []))::sl,bx,H⟩ post):TL X ops (⟨some d,op,ty,pos,af,some (j,w)⟩::rest) ⟨sl,bx,H⟩ post:=
 TL.skip a W b k
def gG{op:BinOp}{n:Int}(a:Nat.blt d X.n=true)(b:bh sl x=some (.m (.d (.int kk m))))(c:bh sl y=some (.m (.d (.int kk n))))
  (e:lZ op kk m n=some r) (k:TL X ops rest ⟨(d,.m (.d r))::sl,bx,H⟩ post):TL X ops (⟨some d,.binOp op xt x y yt,ty,pos,af,none⟩::rest) ⟨sl,bx,H⟩ post:=
 Pf W W a (vg b c e) k
def ay{n:Int}(a:Nat.blt d X.n=true)(b:bh sl x=some (.m (.d (.int .i64 m))))(c:bh sl y=some (.m (.d (.int .i64 n))))
  (e: -9223372036854775808<=m+n/\m+n<=9223372036854775807) (k:TL X ops rest ⟨(d,.m (.d (.int .i64 (m+n))))::sl,bx,H⟩ post):TL X ops (⟨some d,.binOp .add xt x y yt,ty,pos,af,none⟩::rest) ⟨sl,bx,H⟩ post:=by
 refine gG a b c (r:=.int .i64 (m+n)) ?_ k;have:IntKind.i64.wrap (m+n)=m+n:=IntWalk.i64_in _ e;simp[lZ,this]
def cI{n:Int}(a:Nat.blt d X.n=true)(b:bh sl x=some (.m (.d (.int .i64 m))))(c:bh sl y=some (.m (.d (.int .i64 n))))
  (e: -9223372036854775808<=m-n/\m-n<=9223372036854775807) (k:TL X ops rest ⟨(d,.m (.d (.int .i64 (m-n))))::sl,bx,H⟩ post):TL X ops (⟨some d,.binOp .sub xt x y yt,ty,pos,af,none⟩::rest) ⟨sl,bx,H⟩ post:=by
 refine gG a b c (r:=.int .i64 (m-n)) ?_ k;have:IntKind.i64.wrap (m-n)=m-n:=IntWalk.i64_in _ e;simp[lZ,this]
def IN{n:Int}(a:Nat.blt d X.n=true)(b:bh sl x=some (.m (.d (.int kk m))))(c:bh sl y=some (.m (.d (.int kk n))))
  (e:(n==0)=false) (k:TL X ops rest ⟨(d,.m (.d (.int kk (kk.wrap (m.tdiv n)))))::sl,bx,H⟩ post):TL X ops (⟨some d,.binOp .quo xt x y yt,ty,pos,af,none⟩::rest) ⟨sl,bx,H⟩ post:=
 Pf W W a (F0 b c e) k
def oY{n:Int}(a:Nat.blt d X.n=true)(b:bh sl x=some (.m (.d (.int kk m))))(c:bh sl y=some (.m (.d (.int kk n))))
  (e:(n==0)=false) (k:TL X ops rest ⟨(d,.m (.d (.int kk (m.tmod n))))::sl,bx,H⟩ post):TL X ops (⟨some d,.binOp .rem xt x y yt,ty,pos,af,none⟩::rest) ⟨sl,bx,H⟩ post:=
 Pf W W a (F7 b c e) k
def qv{s u:ByteArray}(a:Nat.blt d X.n=true)(b:bh sl x=some (.m (.d (.str s))))(c:bh sl y=some (.m (.d (.str u))))(e:s.size+u.size<=9223372036854775807)(k:TL X ops rest ⟨(d,.m (.d (.str (s++u))))::sl,bx,H⟩ post):
  TL X ops (⟨some d,.binOp .add xt x y yt,ty,pos,af,none⟩::rest) ⟨sl,bx,H⟩ post:=
 Pf W W a (x_ b c e) k
def AF{cs:List D}{v:D}[ht:cA X.P t](a:Nat.blt d X.n=true)(b:bh sl x=some (.m (.d (.aZ cs off))))(c:cs[off]?=some v)(k:TL X ops rest ⟨(d,.m (.d v))::sl,bx,H⟩ post):
  TL X ops (⟨some d,.load t x,ty,pos,af,none⟩::rest) ⟨sl,bx,H⟩ post:=
 Pf W W a (xX b c) k
def jf{m:M}[ht:cA X.P T](a:Nat.blt d X.n=true)(b:bh sl x=some (.loc t off))(c:get bx t=some cs)(e:cs[off]?=some m)(k:TL X ops rest ⟨(d,.m m)::sl,bx,H⟩ post):
  TL X ops (⟨some d,.load T x,ty,pos,af,none⟩::rest) ⟨sl,bx,H⟩ post:=
 Pf W W a (uA b c e) k
def bK{v:D}[ht:aU X.P t e](a:Nat.blt d X.n=true)(b:bh sl x=some (.m (.d v)))(c:oV v=some n)
  (k:TL X ops rest ⟨(d,.m (.d (.int .i64 n)))::sl,bx,H⟩ post):TL X ops (⟨some d,.call ⟨.builtin .len,#[x],#[t]⟩,ty,pos,af,none⟩::rest) ⟨sl,bx,H⟩ post:=
 Pf W W a (x8 b c) k
def aP{r:List D}{i:Int}[ht:aU X.P t e][f:bY X.P e n](a:Nat.blt d X.n=true)(b:bh sl x=some (.m (.d (.sl rows))))(c:bh sl y=some (.m (.d (.int kk i))))
  (f:0<=i) (g:rows[i.toNat]?=some r) (h:r.length=n) (k:TL X ops rest ⟨(d,.m (.d (.aZ r 0)))::sl,bx,H⟩ post):TL X ops (⟨some d,.indexAddr t x y,ty,pos,af,none⟩::rest) ⟨sl,bx,H⟩ post:=
 Pf W W a (x9 b c f g h) k
def aL[hf:bw X.P f](h:PT X.P f ds (·=[r]))(a:Nat.blt d X.n=true)(b:hJ sl args=some ds)(k:TL X ops rest ⟨(d,.m (.d r))::sl,bx,H⟩ post):
  TL X ops (⟨some d,.call ⟨.value (.func f),args.toArray,RE⟩,ty,pos,af,none⟩::rest) ⟨sl,bx,H⟩ post:=
 Pf W W a (AC (by rw[sM];exact b) h) k
def vl{a:List D}[hf:bw X.P f](h:PT X.P f (ds++a) (·=[r]))(b:Nat.blt d X.n=true)(c:bh sl x=some (.m (.d (.fn f a))))(e:hJ sl args=some ds)
  (k:TL X ops rest ⟨(d,.m (.d r))::sl,bx,H⟩ post):TL X ops (⟨some d,.call ⟨.value x,args.toArray,RE⟩,ty,pos,af,none⟩::rest) ⟨sl,bx,H⟩ post:=
 TL.op W W b (Hf c (by rw[sM];exact e) h) (by rintro v s ⟨g,rfl,rfl,rfl⟩;exact k)
theorem yi{ms:List M}{q:M->Hp->Prop}[hf:bw X.P f](h:CT X.P f ms H q)(a:Nat.blt d X.n=true)(b:ga sl args=some ms)
  (k:∀r a,q r a->TL X ops rest ⟨(d,.m r)::sl,bx,a⟩ post):
  TL X ops (⟨some d,.call ⟨.value (.func f),args.toArray,RE⟩,ty,pos,af,none⟩::rest) ⟨sl,bx,H⟩ post:=
 TL.op W W a (wm (by rw[nA];exact b) h) (by grind)
def kD{z:List D}{a:List M}[ht:kC X.P T ps z](b:Nat.blt d X.n=true)(c:ij sl parts=some ms)(e:ug z=some a)
  (hf:uB ps a ms=some cs) (f:kP cs=none) (k:TL X ops rest ⟨(d,.m (.agg cs))::sl,bx,H⟩ post):TL X ops (⟨some d,.build T parts.toArray,ty,pos,af,none⟩::rest) ⟨sl,bx,H⟩ post:=by
 have a:=wo (X:=X) (dst:=some d) (ty:=ty) (pos:=pos) (af:=af) (g:=none) (st:=⟨sl,bx,H⟩) (T:=T) (by rw[iL];exact c) (by rw[<-qu e];exact tN hf);have:pack cs=.agg cs:=by simp[pack,f]
 rw[this]at a;exact Pf W W b a k
def vm{g:Option (Nat×Bool)}{len:Nat}{z:D}[ht:aU X.P T e][w:bY X.P e n][x:gN X.P e z](a:Nat.blt 0 n=true)(o:Nat.beq (bg z).length n=true)
  (s:Nat.ble (len*n) 16777216=true) (q:ej st parts=some ms) (b:oX 0 ms=some rows) (u:Nat.beq rows.length len=true) (r:l_ n rows=true):
  cL X ⟨dst,.buildSlice T len parts.toArray,ty,pos,af,g⟩ st (du (.m (.d (.sl rows))) st):=by
 have j:=asy u;have c:=uC r;have t:rows.length=ms.length:=by
  have:∀{ms:List (Nat×M)} {k:Nat} {rows:List (List D)},oX k ms=some rows->rows.length=ms.length:=by
   intro ms
   induction ms with
   |nil=>intro k rows h;simp[oX]at h;subst h;rfl
   |cons p v y=>
    intro k rows h;obtain⟨l,m⟩:=p;cases m with
    |d d=>
     simp only[oX]at h;cases f:Nat.beq l k with
     |false=>simp[f]at h
     |true=>
      simp only[f,as3]at h;split at h
      .grind
      .cases h
    |_=>simp[oX]at h
  exact this b
 obtain⟨i,A⟩:=yh (bN a) (k:=0) (pre:=[]) (VD:=ey n len (bg z)) b c (by simp) (by simp[ey];rw[<-j,t]);simp only[asW]at i;exact yg a (asy o) s q i (by rw[<-j];exact sL c)
class yj(P:Program)(t:Nat)(cs:outParam (List M)):Prop where
 h:∃z,xC P t z/\(bg z).map .d=cs
def C0[c:yj X.P T cs](f:Nat.blt d X.n=true)(i:iq d sl=true)(k:TL X ops rest ⟨(d,.loc d 0)::sl,(d,cs)::bx,H⟩ post):
  TL X ops (⟨some d,.alloc T,ty,pos,af,none⟩::rest) ⟨sl,bx,H⟩ post:=by
 obtain⟨z,n,j⟩:=c.h;subst j;have b:=AE (X:=X) (st:=⟨sl,bx,H⟩) (d:=d) (T:=T) (ty:=ty) (pos:=pos) (af:=af) (g:=none);have e:cV d sl=sl:=by
  have:∀l:List (Nat×V),iq d l=true->cV d l=l:=by
   intro l
   induction l with
   |nil=>intro _;rfl
   |cons x l a=>
    obtain⟨k,v⟩:=x;cases v with
    |m m=>intro h;simp only[iq]at h;simp[cV,a h]
    |tl o p q r=>intro h;simp only[iq]at h;simp[cV,a h]
    |loc u o=>intro h;simp only[iq,asH,ats]at h;simp[cV,h.1,a h.2]
  exact this sl i
 simp only[e]at b;exact Pf W W f b k
def BP{m:M}(c:Nat.blt d X.n=true)(f:iq d sl=true)(i:bh sl x=some (.m m))(j:iB m=some cs)(k:TL X ops rest ⟨(d,.loc d 0)::sl,(d,cs)::bx,H⟩ post):
  TL X ops (⟨some d,.box T x,ty,pos,af,none⟩::rest) ⟨sl,bx,H⟩ post:=by
 obtain⟨n,o⟩:=cW j;have b:=IL (X:=X) (st:=⟨sl,bx,H⟩) (d:=d) (T:=T) (ty:=ty) (pos:=pos) (af:=af) (g:=none) i o;have e:cV d sl=sl:=by
  have:∀l:List (Nat×V),iq d l=true->cV d l=l:=by
   intro l
   induction l with
   |nil=>intro _;rfl
   |cons x l a=>
    obtain⟨k,v⟩:=x;cases v with
    |m m=>intro h;simp only[iq]at h;simp[cV,a h]
    |tl p q r s=>intro h;simp only[iq]at h;simp[cV,a h]
    |loc u p=>intro h;simp only[iq,asH,ats]at h;simp[cV,h.1,a h.2]
  exact this sl f
 simp only[e,n]at b;exact Pf W W c b k
def fh{a OS:List M}{m:M}[j:bY X.P T n](b:bh sl x=some (.loc t off))(c:bh sl y=some (.m m))(d:get bx t=some cs)(e:iB m=some a)
  (f:Nat.beq a.length n=true) (g:wr cs off a=some OS) (k:TL X ops rest ⟨sl,(t,OS)::bx,H⟩ post):TL X ops (⟨none,.store T x y,ty,pos,af,none⟩::rest) ⟨sl,bx,H⟩ post:=by
 obtain⟨h,i⟩:=cW e;subst h;exact TL.FZ W W (ye b c d (asy f) i (sJ g)) k
theorem Inv.oh{a:Act}{w:World}(h:Inv X ⟨sl,bx,H⟩ a w)(j:∀t v,get O5 t=some v->get sl t=some v)
  (k:∀t,get Po t=get bx t):Inv X ⟨O5,Po,H⟩ a w:=by
 obtain⟨i,f,g,c⟩:=h;refine⟨i,f,g,c.hH,c.defers,c.size,λt v h=>c.slot t v (j t v h),λt d h=>c.box t d (by grind),λt u d l h m=>c.rU t u d l (by grind) (by grind),
  λt d h=>c.sC t d (by grind),λt d h=>c.sD t d (by grind),?_,c.mono,c.cy⟩
 have e:∀b o,ou X.j_ f Po b o↔ou X.j_ f bx b o:=by intro b o;simp[ou,k]
 exact⟨c.hinv.obj,c.hinv.inj,λb o=>by rw[e];exact c.hinv.own b o,λi f g j o d=>c.hinv.sep i f g j o ((e _ _).1 d),λb o d=>c.hinv.mE b o ((e _ _).1 d)⟩
def keeps(sl O5:List (Nat×V)):Prop:=(O5.map λp=>get sl p.1)=O5.map λp=>some p.2
def kc{r:List (Nat×V)}(h:get sl t=some v)(k:keeps sl r):keeps sl ((t,v)::r):=by
 show get sl t::_=some v::_;rw[h];exact atB _ k
def ir:∀{O5:List (Nat×V)},keeps sl O5->∀t v,get O5 t=some v->get sl t=some v
 |[],_,t,v,h=>by simp[get]at h
 |(k,u)::r,a,t,v,h=>by
  injection a with b c
  rcases bO h with⟨rfl,rfl⟩|⟨e,d⟩
  .exact b
  .exact ir c t v d
end rules
def TC.oh(h:TC X c ⟨O5,bx,H⟩ post)(b:keeps sl O5):TC X c ⟨sl,bx,H⟩ post:=
 λa w d=>h a w (d.oh (ir b) (λ_=>rfl))
def TC.IP(I:Nat->St->Prop)(h:Nat)(f:St)(i:I h f)(j:∀a w,Inv X st a w->Inv X f a w)
  (r:∀k s,I k s->TC X c s (after post λg=>∃b d,b<k/\I b d/\∀a w,Inv X g a w->Inv X d a w)):TC X (.loop c) st post:=by
 intro a w l;refine wp_loop_ghost (λk a w=>∃s,I k s/\Inv X s a w) h ⟨f,i,(j a w l)⟩ ?_;rintro k a w ⟨s,m,n⟩;refine wp_mono (r k s m a w n) ?_;intro e t u ⟨g,h3,h4⟩;cases e with
 |normal=>obtain⟨b,d,o,p,q⟩:=h3;exact⟨b,o,d,p,q _ _ h4⟩
 |_=>exact⟨g,h3,h4⟩
end Go.Mt
namespace Go.Mt
structure Ef where
 d:Option Nat
 v:V
 rb:List Nat
 wb:List (Nat×List M)
 nw:Option Nat
 rh:Bool
 wh:Option Hp
def Ef.app(e:Ef)(st:St):St:=
 ⟨match e.d with|some d=>(d,e.v)::st.sl|none=>st.sl,e.wb++st.bx,match e.wh with|some h=>h|none=>st.H⟩
def IQ(X:bW)(ops:Array Oper)(o:Oper)(st c:St):Prop:=
 ∀a w,Inv X st a w->∀(K:Act->World->Prop) (Q:Exit->Act->World->Prop),(∀a b,Inv X c a b->K a b)->
  if Region.wanted o (yielded ops a.tmps)then o.wp X.P a w K Q else K (a.put o.dst undef) w
structure Ag(ops:Array Oper)(o:Oper)(e:Ef)(st a:St):Prop where
 sl:∀t∈o.looksAt ops,get a.sl t=get st.sl t
 bx:∀t∈e.rb++e.wb.map (·.1),get a.bx t=get st.bx t
 H:(e.rh||e.wh.isSome)=true->a.H=st.H
 nw:∀d,e.nw=some d->∀t o,get a.sl t≠some (.loc d o)
def lB(X:bW)(ops:Array Oper)(o:Oper)(e:Ef)(st:St):Prop:=∀a,Ag ops o e st a->IQ X ops o a (e.app a)
inductive pK(X:bW)(ops:Array Oper):List Oper->St->List Ef->St->Prop where
 |nil (st:St):pK X ops [] st [] st
 |cons {o:Oper} {a:List Oper} {st b:St} {e:Ef} {c:List Ef} (h:lB X ops o e st) (d:e.d=o.dst) (k:pK X ops a (e.app st) c b):pK X ops (o::a) st (e::c) b
def TF(X:bW)(ops:Array Oper)(l:List Oper)(st:St)(post:List Ef->St->Prop):Prop:=∃a b,pK X ops l st a b/\post a b
def TF.nil{X:bW}{ops:Array Oper}{st:St}{post:List Ef->St->Prop}(h:post [] st):TF X ops [] st post:=⟨[],st,.nil st,h⟩
def TF.cons{X:bW}{ops:Array Oper}{o:Oper}{rest:List Oper}{st:St}{e:Ef}{post:List Ef->St->Prop}(h:lB X ops o e st)(b:e.d=o.dst)
  (k:TF X ops rest (e.app st) λa s=>post (e::a) s):TF X ops (o::rest) st post:=by
 obtain⟨a,c,d,f⟩:=k;exact⟨e::a,c,.cons h b d,f⟩
def jA(ops:List Oper):List (List Nat):=
 ops.foldl (λa o=>a++[(o.after.toList.filter (Region.binds .any)).flatMap λe=>e.on::a.getD e.on []]) []
def has(l:List Nat)(i:Nat):Bool:=l.any λx=>Nat.beq x i
def slotsOf(ops:Array Oper)(o:Oper):List Nat:=o.looksAt ops++o.dst.toList
def dH(ops:Array Oper)(x y:Oper)(e f:Ef):Bool:=
 (match x.dst with|some d=>has (slotsOf ops y) d|none=>false)||(match y.dst with|some d=>has (slotsOf ops x) d|none=>false)||
 (e.wb.any λp=>has (f.rb++f.wb.map (·.1)) p.1)||(f.wb.any λp=>has (e.rb++e.wb.map (·.1)) p.1)||
 (e.wh.isSome&&(f.rh||f.wh.isSome))||(f.wh.isSome&&e.rh)||
 (match e.nw,f.v with|some d,.loc u _=>Nat.beq u d|_,_=>false)
def q9(e f:Ef):Bool:=match f.nw,e.v with
 |some d,.loc u _=>Nat.beq u d
 |_,_=>false
def sN:Nat->List Oper->Bool
 |_,[]=>true
 |j,o::r=>(o.after.toList.all λe=> !Region.binds .any e||Nat.blt e.on j)&&sN (j+1) r
def iH(ops:Array Oper)(x:Oper)(e:Ef)(i:Nat):List Oper->List Ef->List (List Nat)->Bool
 |y::a,f::c,b::d=>(!dH ops x y e f||has b i)&& !q9 e f&&iH ops x e i a c d
 |_,_,_=>true
def jB(ops:Array Oper):Nat->List Oper->List Ef->List (List Nat)->Bool
 |i,x::a,e::c,b::d=>iH ops x e i a c d&&jB ops (i+1) a c d
 |_,_,_,_=>true
def jC(sl:List (Nat×V)):List Ef->Bool
 |[]=>true
 |e::a=>(match e.nw with|some d=>iq d sl|none=>true)&&jC sl a
def gO(ops:List Oper)(sl:List (Nat×V))(es:List Ef):Bool:=
 sN 0 ops&&jB ops.toArray 0 ops es (jA ops)&&jC sl es
def fU{l:List Nat}{i:Nat} :has l i=true↔i∈l:=by
 unfold has;rw[auc];constructor
 .rintro⟨x,a,b⟩;rw[<-asy b];exact a
 .intro h;exact⟨i,h,auH i⟩
def S(st:St)(es:List Ef)(a:Nat->Bool):Nat->St
 |0=>st
 |k+1=>match es[k]? with
  |some e=>bif a k then e.app (S st es a k)else S st es a k
  |none=>S st es a k
structure Part(a:Type)(es:List Ef)where
 r:St->a
 W:Nat->Bool
 c:Nat->a
 cH:∀k e s,es[k]?=some e->W k=false->r (e.app s)=r s
 write:∀k e s,es[k]?=some e->W k=true->r (e.app s)=c k
section parts
variable{α:Type}{es:List Ef}(p:Part α es){st:St}
def mF(L a:Nat->Bool):∀n,(∀k,k<n->p.W k=true->L k=a k)->p.r (S st es L n)=p.r (S st es a n)
 |0,_=>rfl
 |n+1,h=>by
  have d:=mF L a n (λk a=>h k (by omega));simp only[S];cases c:es[n]? with
  |none=>exact d
  |some e=>
   simp only;cases b:p.W n with
   |false=>
    cases f:L n<;>cases g:a n<;>simp only[as3,atV]<;>(try rw[p.cH n e _ c b])<;>(try rw[p.cH n e _ c b])<;>exact d
   |true=>
    have:=h n (by omega) b;rw[this];cases f:a n<;>simp only[as3,atV]
    .exact d
    .rw[p.write n e _ c b,p.write n e _ c b]
def q_(L:Nat->Bool)(i:Nat):∀n,i<=n->(∀k,i<=k->k<n->p.W k=true->L k=false)->p.r (S st es L n)=p.r (S st es L i)
 |0,a,_=>by
  have:i=0:=by omega
  subst this;rfl
 |n+1,f,h=>by
  by_cases e:i=n+1
  .subst e;rfl
  .have a:=q_ L i n (by omega) (λk a b=>h k a (by omega));simp only[S];cases d:es[n]? with
   |none=>exact a
   |some e=>
    simp only;cases b:L n with
    |false=>exact a
    |true=>
     simp only[as3];cases c:p.W n with
     |false=>rw[p.cH n e _ d c];exact a
     |true=>rw[h n (by omega) (by omega) c]at b;cases b
def mg(L:Nat->Bool)(i m:Nat)(hi:i<=m)(a:∀k,k<i->p.W k=true->L k=true)(b:∀k,i<=k->k<m->p.W k=true->L k=false):
  p.r (S st es L m)=p.r (S st es (λ_=>true) i):=
 (q_ p L i m hi b).trans (mF p L _ i λk b c=>a k b c)
def sO(L:Nat->Bool)(i m:Nat)(hi:i<m)(e:Ef)(b:es[i]?=some e)(f:L i=false)(d:p.W i=true->∀k,i<k->k<m->p.W k=true->L k=false):
  p.r (S st es (λk=>if k=i then true else L k) m)=p.r (e.app (S st es L m)):=by
 cases a:p.W i with
 |true=>
  rw[p.write i e _ b a];have:=q_ p (st:=st) (λk=>if k=i then true else L k) (i+1) m (by omega) (λk b b c=>by
   have:k≠i:=by omega
   simp[this];exact d a k (by omega) b c)
  rw[this];simp only[S,b,auz,as3];exact p.write i e _ b a
 |false=>
  rw[p.cH i e _ b a];exact mF p _ _ m λk g c=>by
   have:k≠i:=by rintro rfl;rw[a]at c;cases c
   simp[this]
end parts
def kE(es:List Ef)(t:Nat):Part (Option V) es where
 r s:=get s.sl t
 W k:=match es[k]? with
  |some e=>match e.d with|some d=>Nat.beq d t|none=>false
  |none=>false
 c k:=match es[k]? with|some e=>some e.v|none=>none
 cH k e s he hw:=by
  simp only[he]at hw;unfold Ef.app;cases hd:e.d with
  |none=>rfl
  |some d=>
   simp only[hd]at hw;have:d≠t:=by rintro rfl;simp at hw
   simp[bM,this]
 write k e s he hw:=by
  simp only[he]at hw⊢;unfold Ef.app;cases hd:e.d with
  |none=>simp[hd]at hw
  |some d=>
   simp only[hd]at hw;have:=asy hw;subst this;simp[bM]
def get_append{a:Type}(l r:List (Nat×a))(t:Nat):get (l++r) t=match get l t with|some v=>some v|none=>get r t:=by
 induction l with
 |nil=>rfl
 |cons x l b=>
  obtain⟨k,v⟩:=x;rw[atp,bM,bM];by_cases e:k=t
  .simp[e]
  .simp[e,b]
def jJ{a:Type}(l:List (Nat×a))(t:Nat):(get l t).isSome=has (l.map (·.1)) t:=by
 induction l with
 |nil=>rfl
 |cons x l b=>
  obtain⟨k,v⟩:=x;rw[bM];by_cases e:k=t
  .subst e;simp[has]
  .have:Nat.beq k t=false:=by rw[<-atr];intro h;exact e (asy h)
   simp only[e,aup,b,has,asT,List.any_cons,this,Bool.false_or]
def mh(es:List Ef)(t:Nat):Part (Option (List M)) es where
 r s:=get s.bx t
 W k:=match es[k]? with
  |some e=>has (e.wb.map (·.1)) t
  |none=>false
 c k:=match es[k]? with|some e=>get e.wb t|none=>none
 cH k e s he hw:=by
  simp only[he]at hw;have h:=jJ e.wb t;rw[hw]at h;show get (e.wb++s.bx) t=_;rw[get_append];cases hg:get e.wb t with
  |none=>rfl
  |some v=>rw[hg]at h;cases h
 write k e s he hw:=by
  simp only[he]at hw⊢;have h:=jJ e.wb t;rw[hw]at h;show get (e.wb++s.bx) t=_;rw[get_append];cases hg:get e.wb t with
  |none=>rw[hg]at h;cases h
  |some v=>rfl
def tP(es:List Ef):Part Hp es where
 r s:=s.H
 W k:=match es[k]? with
  |some e=>e.wh.isSome
  |none=>false
 c k:=match es[k]? with|some e=>(match e.wh with|some h=>h|none=>[])|none=>[]
 cH k e s he hw:=by
  simp only[he]at hw;unfold Ef.app;cases hh:e.wh with
  |none=>rfl
  |some h=>rw[hh]at hw;cases hw
 write k e s he hw:=by
  simp only[he]at hw⊢;unfold Ef.app;cases hh:e.wh with
  |none=>rw[hh]at hw;cases hw
  |some h=>rfl
def ov:∀(ops:List Oper),(jA ops).length=ops.length:=by
 have:∀(ops:List Oper) (a:List (List Nat)),(ops.foldl (λa o=>a++[(o.after.toList.filter (Region.binds .any)).flatMap λe=>e.on::a.getD e.on []]) a).length=a.length+ops.length:=by
  intro ops
  induction ops with
  |nil=>intro a;simp
  |cons o ops b=>intro a;rw[aty,b];simp;omega
 intro ops;unfold jA;rw[this];simp
def AG{ops:List Oper}{j i:Nat}{o:Oper}{b:List Nat}(m:ops[j]?=some o)(c:(jA ops)[j]?=some b)(hi:i∈b):
  ∃e∈o.after.toList,Region.binds .any e=true/\(e.on=i\/∃b',(jA ops)[e.on]?=some b'/\e.on<j/\i∈b'):=by
 have q:∀(ops:List Oper) (a:List (List Nat)) (j:Nat) (o:Oper) (b:List Nat),ops[j]?=some o->
   (ops.foldl (λa o=>a++[(o.after.toList.filter (Region.binds .any)).flatMap λe=>e.on::a.getD e.on []]) a)[a.length+j]?=some b->
   ∃d:List (List Nat),d.length=a.length+j/\(∀k,k<a.length+j->d[k]?=(ops.foldl (λa o=>a++[(o.after.toList.filter (Region.binds .any)).flatMap λe=>e.on::a.getD e.on []]) a)[k]?)/\
    b=(o.after.toList.filter (Region.binds .any)).flatMap λe=>e.on::d.getD e.on []:=by
  have pre:∀(ops:List Oper) (a:List (List Nat)) (k:Nat),k<a.length->
    (ops.foldl (λa o=>a++[(o.after.toList.filter (Region.binds .any)).flatMap λe=>e.on::a.getD e.on []]) a)[k]?=a[k]?:=by
   intro ops
   induction ops with
   |nil=>intro a k _;rfl
   |cons o ops h=>
    intro a k l;rw[aty,h _ k (by simp;omega),asl l]
  intro ops
  induction ops with
  |nil=>intro a j o b h;simp at h
  |cons x ops l=>
   intro a j o b h c;cases j with
   |zero=>
    simp at h;subst h;rw[aty,pre _ _ _ (by simp)]at c;simp at c;refine⟨a,by simp,?_,c.symm⟩;intro k r;rw[aty,pre _ _ _ (by simp;omega),asl (by omega)]
   |succ j=>
    rw[aty]at c⊢;have e:a.length+(j+1)=(a++[(x.after.toList.filter (Region.binds .any)).flatMap λe=>e.on::a.getD e.on []]).length+j:=by simp;omega
    rw[e]at c⊢;exact l _ j o b (by simpa using h) c
 obtain⟨d,g,n,p⟩:=q ops [] j o b m (by simpa [jA] using c);subst p;rw[List.mem_flatMap]at hi;obtain⟨e,f,hi⟩:=hi;rw[aum]at f;refine⟨e,f.1,f.2,?_⟩;simp only[asQ]at hi;rcases hi with hi|hi
 .exact .inl hi.symm
 .right;have l:e.on<d.length:=by
   rcases asp e.on d.length with h|h
   .exact h
   .simp[asr h]at hi
  have:d[e.on]?=(jA ops)[e.on]?:=by
   have:=n e.on (by simp at g⊢;omega);simpa [jA] using this
  refine⟨d[e.on],by rw[<-this];simp[l],by simp at g;omega,?_⟩;simpa [List.getD,l] using hi
end Go.Mt
