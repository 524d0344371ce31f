/- A part of the proof of the last text of this claim, without conditions. -/
import Derived.Tactics
import Derived.Orders
import Derived.Deep.LoopGhost
import Derived.Below
import Derived.WalkKit
set_option maxRecDepth 4000
set_option linter.all false
namespace Go
theorem W.{u}{α:Sort u}{a:α}:a=a:=rfl
abbrev auJ:=@Int.natCast_nonneg
abbrev auK:=@Nat.le_refl
abbrev auL:=@List.getElem?_append_left
abbrev auM:=@Nat.lt_or_ge
abbrev auN:=@List.length_append
abbrev auO:=@List.getElem?_eq_getElem
abbrev auP:=@List.getElem?_eq_none
abbrev auQ:=@List.mem_of_getElem?
abbrev auR:=@List.getElem?_append_right
abbrev auS:=@List.mem_append
abbrev auT:=@List.getElem?_set_ne
abbrev auU:=@if_neg
abbrev auV:=@of_decide_eq_true
abbrev auW:=@List.mem_singleton
abbrev auX:=@List.mem_cons
abbrev auY:=@List.mem_append_left
abbrev auZ:=@Nat.eq_of_beq_eq_true
abbrev au0:=@List.mem_append_right
abbrev au1:=@List.take_succ_eq_append_getElem
abbrev au2:=@if_pos
abbrev au3:=@List.not_mem_nil
abbrev au4:=@List.length_cons
abbrev au5:=@decide_eq_true
abbrev au6:=@List.getElem?_map
abbrev au7:=@List.mem_cons_of_mem
abbrev au8:=@List.length_map
abbrev au9:=@of_decide_eq_false
abbrev ava:=@List.mem_map
abbrev avb:=@List.getElem_mem
abbrev avc:=@decide_eq_false
abbrev avd:=@List.length_singleton
abbrev ave:=@List.mem_iff_getElem?
abbrev avf:=@Bool.and_eq_true
abbrev avg:=@List.append_nil
abbrev avh:=@List.append_assoc
abbrev avi:=@List.map_append
abbrev avj:=@List.mem_cons_self
abbrev avk:=@Nat.mul_le_mul_right
abbrev avl:=@Nat.eq_zero_or_pos
abbrev avm:=@List.map_cons
abbrev avn:=@List.nil_append
abbrev avo:=@List.take_length
abbrev avp:=@Nat.zero_le
abbrev avq:=@List.findIdx?_eq_some_iff_getElem
abbrev avr:=@Nat.le_mul_of_pos_right
abbrev avs:=@beq_eq_false_iff_ne
abbrev avt:=@List.length_nil
abbrev avu:=@Array.getElem?_eq_none
abbrev avv:=@Option.map_eq_some_iff
abbrev avw:=@List.mem_map_of_mem
abbrev avx:=@cond_true
abbrev avy:=@List.map_congr_left
abbrev avz:=@List.getElem?_set_self
abbrev avA:=@List.eq_nil_of_length_eq_zero
abbrev avB:=@Nat.lt_succ_iff_lt_or_eq
abbrev avC:=@List.take_append_drop
abbrev avD:=@Nat.le_trans
abbrev avE:=@Nat.add_assoc
abbrev avF:=@or_false
abbrev avG:=@Nat.le_of_ble_eq_true
abbrev avH:=@Ne.symm
abbrev avI:=@Classical.byContradiction
abbrev avJ:=@Nat.ble_eq_true_of_le
abbrev avK:=@List.take_of_length_le
abbrev avL:=@List.nodup_append
abbrev avM:=@List.cons_append
abbrev avN:=@Nat.le_add_right
abbrev avO:=@Array.getElem?_setIfInBounds_ne
abbrev avP:=@Nat.add_sub_cancel_left
abbrev avQ:=@List.drop_eq_getElem_cons
abbrev avR:=@Nat.lt_of_lt_of_le
abbrev avS:=@Bool.false_eq_true
abbrev avT:=@List.map_nil
abbrev avU:=@Iff.rfl
abbrev avV:=@Prod.mk.inj
abbrev avW:=@Bool.not_eq_true'
abbrev avX:=@Bool.not_eq_true
abbrev avY:=@List.set_append_right
abbrev avZ:=@List.foldl_cons
abbrev av0:=@Nat.eq_of_mul_eq_mul_right
abbrev av1:=@List.mem_singleton_self
abbrev av2:=@Option.some.injEq
abbrev av3:=@congrArg
abbrev av4:=@List.findIdx?_eq_none_iff
abbrev av5:=@List.all_eq_true
abbrev av6:=@Nat.lt_trichotomy
abbrev av7:=@List.getElem?_concat_length
abbrev av8:=@List.mem_of_mem_take
abbrev av9:=@Nat.add_zero
abbrev awa:=@Nat.pow_succ
abbrev awb:=@Array.getElem?_replicate
abbrev awc:=@Nat.zero_add
abbrev awd:=@Int.ofNat_lt
abbrev awe:=@Array.getElem?_extract
abbrev awf:=@Array.getElem?_append_left
abbrev awg:=@List.getD_eq_getElem?_getD
abbrev awh:=@List.flatten_append
abbrev awi:=@if_false
abbrev awj:=@List.length_replicate
abbrev awk:=@List.length_filter_le
abbrev awl:=@Classical.choose_spec
abbrev awm:=@List.length_take
abbrev awn:=@List.drop_length
abbrev awo:=@Nat.succ_mul
abbrev awp:=@List.mem_range
abbrev awq:=@List.nodup_nil
abbrev awr:=@if_true
abbrev aws:=@cond_false
abbrev awt:=@List.ext_getElem?
abbrev awu:=@Nat.mod_lt
abbrev awv:=@List.take_succ_cons
abbrev aww:=@List.filter_cons_of_pos
abbrev awx:=@List.filter_cons_of_neg
abbrev awy:=@Nat.add_mul
abbrev awz:=@Nat.mul_add
abbrev awA:=@List.getElem?_drop
abbrev awB:=@List.getElem?_take
abbrev awC:=@Option.map_some
abbrev awD:=@Bool.or_eq_true
abbrev awE:=@Array.getElem?_append_right
abbrev awF:=@beq_iff_eq
abbrev awG:=@List.any_eq_true
abbrev awH:=@List.map_toArray
abbrev awI:=@Array.getElem?_push
abbrev awJ:=@Nat.add_lt_add_left
abbrev awK:=@List.getElem?_take_of_lt
abbrev awL:=@List.getElem_append_left
abbrev awM:=@Option.isSome_iff_exists
abbrev awN:=@Nat.min_eq_left
abbrev awO:=@Nat.mul_eq_zero
abbrev awP:=@List.mem_filter
abbrev awQ:=@List.nodup_cons
abbrev awR:=@Array.ext_getElem?
abbrev awS:=@decide_eq_false_iff_not
abbrev awT:=@Int.le_refl
abbrev awU:=@Array.getElem?_setIfInBounds_self
abbrev awV:=@Nat.sub_self
abbrev awW:=@List.getElem?_inj
abbrev awX:=@not_false_eq_true
abbrev awY:=@List.findIdx?_map
abbrev awZ:=@Array.getElem?_modify
abbrev aw0:=@List.sizeOf_lt_of_mem
abbrev aw1:=@ByteArray.data_append
abbrev aw2:=@List.map_take
abbrev aw3:=@List.drop_append_of_le_length
abbrev aw4:=@Bool.eq_iff_iff
abbrev aw5:=@List.foldr_cons
abbrev aw6:=@List.length_pos_iff
abbrev aw7:=@Array.toList_append
abbrev aw8:=@Nat.mul_le_mul_left
abbrev aw9:=@Nat.beq_refl
abbrev axa:=@Nat.mul_zero
abbrev axb:=@List.mapM_cons
abbrev axc:=@List.foldl_nil
abbrev axd:=@Array.mapM_eq_mapM_toList
abbrev axe:=@List.getElem_append_right
abbrev axf:=@List.mem_of_find?_eq_some
abbrev axg:=@List.foldl_append
abbrev axh:=@Array.size_append
abbrev axi:=@Option.bind_some
abbrev axj:=@Nat.mod_eq_of_lt
abbrev axk:=@List.getElem?_replicate
abbrev axl:=@Nat.lt_of_not_le
abbrev axm:=@Int.eq_ofNat_of_zero_le
abbrev axn:=@Nat.min_eq_right
abbrev axo:=@List.drop_eq_nil_of_le
abbrev axp:=@List.filter_eq_nil_iff
abbrev axq:=@dif_pos
abbrev axr:=@List.map_map
abbrev axs:=@Array.map_empty
abbrev axt:=@Array.getElem?_append
abbrev axu:=@List.getElem?_toArray
abbrev axv:=@Array.mem_iff_getElem
abbrev axw:=@List.eq_nil_or_concat
abbrev axx:=@List.take_succ
abbrev axy:=@List.take_take
abbrev axz:=@dif_neg
abbrev axA:=@Bool.and_self
abbrev axB:=@Nat.mul_assoc
abbrev axC:=@Nat.mul_comm
abbrev axD:=@Nat.ne_of_gt
abbrev axE:=@List.all_map
abbrev axF:=@Nat.le_of_lt
abbrev axG:=@Classical.em
end Go
namespace Go.Mt
inductive D where
 |int (k:IntKind) (n:Int)
 |bool (b:Bool)
 |str (s:ByteArray)
 |sl (rows:List (List D))
 |ov
 |agg (cs:List D)
 |bm (cs:List D) (off:Nat)
 |fn (f:Nat) (cap:List D)
 |bX|qW|yO|pG
 |Ig (t:Nat) (d:D)
 deriving Inhabited
inductive M where
 |d (x:D)
 |ref (i off:Nat)
 |bH (i aL len:Nat)
 |eI (i aL off:Nat)
 |mp (i:Nat)
 |it (i:Nat)
 |agg (cs:List M)
 |fn (f:Nat) (cap:List M)
 |dq (vs:List M)
 |undef
 deriving Inhabited
inductive V where
 |m (x:M)
 |loc (t off:Nat)
 |tl (j aL off len:Nat)
 deriving Inhabited
inductive Ob where
 |box (cs:List M)
 |row (acc:Bool) (ec aL:Nat) (cs:List M)
 |map (es:List (D×M))
 |iter (x:M)
 |dead
 |free
 deriving Inhabited
abbrev Hp:=List Ob
def get{α:Type} :List (Nat×α)->Nat->Option α
 | [],_=>none
 |(k,v)::r,t=>bif Nat.beq k t then some v else get r t
def del{α:Type} :List (Nat×α)->Nat->List (Nat×α)
 | [],_=>[]
 |(k,v)::r,t=>bif Nat.beq k t then del r t else(k,v)::del r t
structure St where
 sl:List (Nat×V)
 bx:List (Nat×List M)
 H:Hp
def u_(P:Program)(t:Nat):Option Bool:=
 match P.underlying t with
 |some (.struct _)=>some true
 |some (.array _ _)=>some true
 |some _=>some false
 |none=>none
def gm(P:Program)(t:Nat):Option Nat:=(P.info? t).map (·.size)
def vW(P:Program)(t:Nat):Option Nat:=(P.info? t).map (·.bytes)
def qX:Value->Option D
 | .int k n=>some (.int k n)
 | .bool b=>some (.bool b)
 | .string s=>some (.str s)
 | .slice none 0 0=>some (.sl [])
 | .pointer none=>some .bX
 | .nilFunc=>some .qW
 | .nilIface=>some .yO
 | .map none=>some .pG
 |_=>none
def mB:List Value->Option (List D)
 | []=>some []
 |v::r=>match qX v,mB r with
  |some d,some ds=>some (d::ds)
  |_,_=>none
def rL:Value->Option D
 | .agg cs=>match mB cs.toList with
  |some ds=>some (.agg ds)
  |none=>none
 |v=>qX v
def uz(P:Program)(t:Nat):Option D:=
 match P.info? t with
 |some i=>match i.zero with
  |some v=>rL v
  |none=>none
 |none=>none
def bw(sl:List (Nat×V)):Operand->Option V
 | .tmp t=>get sl t
 | .const v=>match rL v with
  |some d=>some (.m (.d d))
  |none=>none
 | .func f=>some (.m (.d (.fn f [])))
 | .global _=>none
def St.ev(s:St)(x:Operand):Option V:=bw s.sl x
def bu:D->List D
 | .agg cs=>cs
 |d=>[d]
def cellsOf:M->List M
 | .d x=>(bu x).map .d
 | .agg cs=>cs
 |m=>[m]
def kK:List M->Option (List D)
 | []=>some []
 | .d x::r=>(kK r).map (x:: ·)
 |_=>none
def pack(cs:List M):M:=
 match kK cs with
 |some ds=> .d (.agg ds)
 |none=> .agg cs
def ie(P:Program)(t:Nat)(cs:List M)(off:Nat):Option M:=
 match u_ P t,gm P t with
 |some true,some n=>bif Nat.ble (off+n) cs.length then some (pack ((cs.drop off).take n))else none
 |some false,_=>cs[off]?
 |_,_=>none
def tg(P:Program)(t:Nat)(cs:List D)(off:Nat):Option D:=
 match u_ P t,gm P t with
 |some true,some n=>bif Nat.ble (off+n) cs.length then some (.agg ((cs.drop off).take n))else none
 |some false,_=>cs[off]?
 |_,_=>none
def ep(cs:List M)(off:Nat)(new:List M):Option (List M):=
 bif Nat.ble (off+new.length) cs.length then some (cs.take off++new++cs.drop (off+new.length))else none
def chunk(ec:Nat):Nat->List M->Option (List (List D))
 |0,[]=>some []
 |0,_=>none
 |n+1,cs=>match kK (cs.take ec),chunk ec n (cs.drop ec)with
  |some r,some rs=>some (r::rs)
  |_,_=>none
def flat:Value->Bool
 | .agg _=>false
 | .tuple _=>false
 |_=>true
abbrev dI(w:World)(b o:Nat):Option Value:=w.cell? ⟨b,o,none⟩
inductive gv(O:Nat->Nat->Prop)(w:World):D->Value->Prop where
 |int (k:IntKind) (n:Int):gv O w (.int k n) (.int k n)
 |bool (b:Bool):gv O w (.bool b) (.bool b)
 |str (s:ByteArray):gv O w (.str s) (.string s)
 |slnil (a:Option Addr):gv O w (.sl []) (.slice a 0 0)
 |sl (rows:List (List D)) (b o cap ec:Nat) (val:Nat->Nat->Value) (h0:rows≠ []) (R9:rows.length<=cap) (Qq:rows.length<=140737488355328)
   (Tp: ∀r∈rows,r.length=ec)
   (PL: ∀i j,i<rows.length->j<ec->dI w b (o+(i*ec+j))=some (val i j)/\ ¬O b (o+(i*ec+j)))
   (Q5: ∀i j,i<rows.length->j<ec->flat (val i j)=true)
   (QV: ∀i j r d,rows[i]?=some r->r[j]?=some d->gv O w d (val i j)):
   gv O w (.sl rows) (.slice (some ⟨b,o,none⟩) rows.length cap)
 |ov (a:Option Addr) (cap:Nat):gv O w .ov (.slice a 0 cap)
 |agg (cs:List D) (vs:Array Value) (hl:vs.size=cs.length) (hf: ∀(i:Nat) (v:Value),vs[i]?=some v->flat v=true) (h: ∀(i:Nat) (d:D) (v:Value),cs[i]?=some d->vs[i]?=some v->gv O w d v):gv O w (.agg cs) (.agg vs)
 |bm (cs:List D) (off b o:Nat) (val:Nat->Value)
   (PL: ∀i,i<cs.length->dI w b (o+i)=some (val i)/\ ¬O b (o+i))
   (Q5: ∀i,i<cs.length->flat (val i)=true)
   (QV: ∀i d,cs[i]?=some d->gv O w d (val i)):gv O w (.bm cs off) (.pointer (some ⟨b,o+off,none⟩))
 |fn (f:Nat) (cs:List D) (vs:Array Value) (hl:vs.size=cs.length) (h: ∀(i:Nat) (d:D) (v:Value),cs[i]?=some d->vs[i]?=some v->gv O w d v):gv O w (.fn f cs) (.func (.func f) #[] vs)
 |bX:gv O w .bX (.pointer none)
 |qW:gv O w .qW .nilFunc
 |yO:gv O w .yO .nilIface
 |pG:gv O w .pG (.map none)
 |Ig (t:Nat) (d:D) (v:Value) (h:gv O w d v):gv O w (.Ig t d) (.iface t v)
theorem gv.mono{O p:Nat->Nat->Prop}{w w':World}(q: ∀b c v,dI w b c=some v-> ¬O b c->dI w' b c=some v/\ ¬p b c)
  {d:D} {v:Value} (h:gv O w d v):gv p w' d v:=by
 induction h with
 |int s t=>exact .int s t
 |bool b=>exact .bool b
 |str u=>exact .str u
 |slnil j=>exact .slnil j
 |sl I b c n z val A B C E f k F a=>
  exact .sl I b c n z val A B C E (λe o g r=>q _ _ _ (f e o g r).1 (f e o g r).2) k a
 |ov j n=>exact .ov j n
 |agg i l m G h a=>exact .agg i l m G a
 |bm i H b c val f k F a=>exact .bm i H b c val (λe g=>q _ _ _ (f e g).1 (f e g).2) k a
 |fn x i l m h a=>exact .fn x i l m a
 |bX=>exact .bX
 |qW=>exact .qW
 |yO=>exact .yO
 |pG=>exact .pG
 |Ig y d v h a=>exact .Ig y d v a
structure Sg where
 w:World
 O:Nat->Nat->Prop
 l:Nat->Nat
 H:Hp
inductive RM(σ:Sg):M->Value->Prop where
 |d {x:D} {v:Value} (h:gv σ.O σ.w x v):RM σ (.d x) v
 |ref (i off:Nat) (cs:List M) (h:σ.H[i]?=some (.box cs)):RM σ (.ref i off) (.pointer (some ⟨σ.l i,off,none⟩))
 |bH (i aL len:Nat) (a:Option Addr) (cap:Nat)
   (hle:σ.H[i]?=some .dead\/ ∃acc ec Ql cs,σ.H[i]?=some (.row acc ec Ql cs)/\aL<=Ql)
   (Rb: ∀acc ec cs,σ.H[i]?=some (.row acc ec aL cs)->a=some ⟨σ.l i,0,none⟩/\cs.length=len*ec/\ ∃PB T,σ.w.heap[σ.l i]?=some (.cells PB T (0,0))/\PB.size=cap*ec):
   RM σ (.bH i aL len) (.slice a len cap)
 |eI (i aL off b:Nat)
   (hle:σ.H[i]?=some .dead\/ ∃acc ec Ql cs,σ.H[i]?=some (.row acc ec Ql cs)/\aL<=Ql)
   (Rb: ∀acc ec cs,σ.H[i]?=some (.row acc ec aL cs)->b=σ.l i):RM σ (.eI i aL off) (.pointer (some ⟨b,off,none⟩))
 |mp (i:Nat) (es:List (D×M)) (h:σ.H[i]?=some (.map es)):RM σ (.mp i) (.map (some (σ.l i)))
 |it (i:Nat) (x:M) (h:σ.H[i]?=some (.iter x)):RM σ (.it i) (.pointer (some ⟨σ.l i,0,none⟩))
 |agg (cs:List M) (vs:Array Value) (hl:vs.size=cs.length) (hf: ∀(i:Nat) (v:Value),vs[i]?=some v->flat v=true) (h: ∀(i:Nat) (m:M) (v:Value),cs[i]?=some m->vs[i]?=some v->RM σ m v):RM σ (.agg cs) (.agg vs)
 |fn (f:Nat) (cs:List M) (vs:Array Value) (hl:vs.size=cs.length) (h: ∀(i:Nat) (m:M) (v:Value),cs[i]?=some m->vs[i]?=some v->RM σ m v):RM σ (.fn f cs) (.func (.func f) #[] vs)
 |dq (cs:List M) (vs:Array Value) (hl:vs.size=cs.length) (h: ∀(i:Nat) (m:M) (v:Value),cs[i]?=some m->vs[i]?=some v->RM σ m v):RM σ (.dq cs) (.tuple vs)
 |undef (v:Value):RM σ .undef v
structure dW(σ τ:Sg):Prop where
 cell: ∀b o v,dI σ.w b o=some v-> ¬σ.O b o->dI τ.w b o=some v/\ ¬τ.O b o
 box: ∀(i:Nat) cs,σ.H[i]?=some (.box cs)->(∃PV,τ.H[i]?=some (.box PV))/\τ.l i=σ.l i
 map: ∀(i:Nat) es,σ.H[i]?=some (.map es)->(∃Uu,τ.H[i]?=some (.map Uu))/\τ.l i=σ.l i
 iter: ∀(i:Nat) x,σ.H[i]?=some (.iter x)->(∃x',τ.H[i]?=some (.iter x'))/\τ.l i=σ.l i
 dead: ∀i:Nat,σ.H[i]?=some .dead->τ.H[i]?=some .dead
 row: ∀(i:Nat) acc ec aL cs,σ.H[i]?=some (.row acc ec aL cs)->τ.H[i]?=some .dead\/ ∃Sq Ql PV,τ.H[i]?=some (.row Sq ec Ql PV)/\aL<=Ql/\
  (Ql=aL->τ.l i=σ.l i/\PV.length=cs.length/\ ∀PB T,σ.w.heap[σ.l i]?=some (.cells PB T (0,0))-> ∃QW,τ.w.heap[σ.l i]?=some (.cells QW T (0,0))/\QW.size=PB.size)
 free: ∀i:Nat,σ.H[i]?=some .free-> ∃ob,τ.H[i]?=some ob
theorem dW.refl(σ:Sg):dW σ σ:=
 ⟨λ_ _ _ a d=>⟨a,d⟩,λ_ b a=>⟨⟨b,a⟩,rfl⟩,λ_ e a=>⟨⟨e,a⟩,rfl⟩,λ_ c a=>⟨⟨c,a⟩,rfl⟩,λ_ a=>a,
 λ_ h j f b a=> .inr ⟨h,f,b,a,auK _,λ_=>⟨rfl,rfl,λg i a=>⟨g,a,rfl⟩⟩⟩,λ_ a=>⟨_,a⟩⟩
theorem dW.has{σ τ:Sg}(h:dW σ τ)(i:Nat)(ob:Ob)(hi:σ.H[i]?=some ob): ∃QK,τ.H[i]?=some QK:=by
 cases ob with
 |box b=>obtain⟨⟨c,a⟩,_⟩:=h.box i b hi;exact⟨_,a⟩
 |map b=>obtain⟨⟨c,a⟩,_⟩:=h.map i b hi;exact⟨_,a⟩
 |iter b=>obtain⟨⟨c,a⟩,_⟩:=h.iter i b hi;exact⟨_,a⟩
 |dead=>exact⟨_,h.dead i hi⟩
 |free=>exact h.free i hi
 |row f d e b=>
  rcases h.row i f d e b hi with a|⟨_,_,_,a,_⟩
  ·exact⟨_,a⟩
  ·exact⟨_,a⟩
theorem dW.trans{σ τ o:Sg}(h:dW σ τ)(k:dW τ o):dW σ o:=by
 refine⟨?_,?_,?_,?_,?_,?_,λa c=>let⟨x,d⟩:=h.free a c;k.has a x d⟩
 ·intro b p v c d;obtain⟨e,f⟩:=h.cell b p v c d;exact k.cell b p v e f
 ·intro a g c;obtain⟨⟨i,e⟩,f⟩:=h.box a g c;obtain⟨j,l⟩:=k.box a i e;exact⟨j,l.trans f⟩
 ·intro a g c;obtain⟨⟨i,e⟩,f⟩:=h.map a g c;obtain⟨j,l⟩:=k.map a i e;exact⟨j,l.trans f⟩
 ·intro a g c;obtain⟨⟨i,e⟩,f⟩:=h.iter a g c;obtain⟨j,l⟩:=k.iter a i e;exact⟨j,l.trans f⟩
 ·exactλa c=>k.dead a (h.dead a c)
 ·intro a S r s g c;rcases h.row a S r s g c with d|⟨y,m,i,d,z,A⟩
  ·exact .inl (k.dead a d)
  ·rcases k.row a y r m i d with n|⟨B,t,C,n,D,E⟩
   ·exact .inl n
   ·refine .inr ⟨B,t,C,n,avD z D,λU=> ?_⟩;have F:m=s:=by omega
    have G:t=m:=by omega
    obtain⟨u,H,I⟩:=A F;obtain⟨J,K,w⟩:=E G;refine⟨J.trans u,K.trans H,λL q M=> ?_⟩;obtain⟨T,N,O⟩:=I L q M;rw[u]at w;obtain⟨P,Q,R⟩:=w T q N;exact⟨P,Q,R.trans O⟩
theorem RM.mono{σ τ:Sg}(p:dW σ τ){m:M}{v:Value}(h:RM σ m v):RM τ m v:=by
 have H: ∀(a g:Nat),(σ.H[a]?=some .dead\/ ∃j f n c,σ.H[a]?=some (.row j f n c)/\g<=n)->
   (τ.H[a]?=some .dead\/ ∃j f n c,τ.H[a]?=some (.row j f n c)/\g<=n):=by
  intro a g h;rcases h with h|⟨j,f,n,c,i,k⟩
  ·exact .inl (p.dead a h)
  ·rcases p.row a j f n c i with o|⟨E,B,F,o,t,_⟩
   ·exact .inl o
   ·exact .inr ⟨E,f,B,F,o,avD k t⟩
 have I: ∀(a g:Nat) j f c,(σ.H[a]?=some .dead\/ ∃j f n c,σ.H[a]?=some (.row j f n c)/\g<=n)->τ.H[a]?=some (.row j f g c)->
   ∃u r,σ.H[a]?=some (.row u f g r)/\τ.l a=σ.l a/\c.length=r.length/\ ∀z s,σ.w.heap[σ.l a]?=some (.cells z s (0,0))-> ∃A,τ.w.heap[σ.l a]?=some (.cells A s (0,0))/\A.size=z.size:=by
  intro a g j f c q l;rcases q with h|⟨G,ac,J,K,i,k⟩
  ·have:=p.dead a h;rw[this]at l;cases l
  ·rcases p.row a G ac J K i with o|⟨E,B,F,o,t,P⟩
   ·rw[o]at l;cases l
   ·rw[o]at l;injection l with l
    injection l with Q R S T
    subst Q;subst R;subst T;subst S;have e:J=B:=by omega
    subst e;obtain⟨U,V,X⟩:=P W;exact⟨G,K,i,U,V,X⟩
 induction h with
 |d h=>exact .d (h.mono p.cell)
 |ref a D c h=>
  obtain⟨⟨Y,i⟩,k⟩:=p.box a c h;rw[<-k];exact .ref a D Y i
 |bH a g ah L co q C=>
  refine .bH a g ah L co (H a g q) λj f c l=> ?_
  obtain⟨u,r,i,k,o,t⟩:=I a g j f c q l;obtain⟨Z,y2,z,s,y3,y4⟩:=C u f r i;obtain⟨A,y5,y6⟩:=t z s y3;rw[k];exact⟨Z,o.trans y2,A,s,y5,y6.trans y4⟩
 |eI a g D b q C=>
  refine .eI a g D b (H a g q) λj f c l=> ?_
  obtain⟨u,r,i,k,o,t⟩:=I a g j f c q l;rw[k];exact C u f r i
 |mp a es h=>
  obtain⟨⟨Uu,i⟩,k⟩:=p.map a es h;rw[<-k];exact .mp a Uu i
 |it a N h=>
  obtain⟨⟨x',i⟩,k⟩:=p.iter a N h;rw[<-k];exact .it a x' i
 |agg c w x hf h y=>exact .agg c w x hf y
 |fn O c w x h y=>exact .fn O c w x y
 |dq c w x h y=>exact .dq c w x y
 |undef v=>exact .undef v
def vX(σ:Sg)(ms:List M)(vs:Array Value):Prop:=
 vs.size=ms.length/\ ∀(i:Nat) (m:M) (v:Value),ms[i]?=some m->vs[i]?=some v->RM σ m v
def lz(σ:Sg)(ms:List M)(vs:Array Value):Prop:=
 vs.size=ms.length/\ ∀(i:Nat) (m:M) (v:Value),ms[i]?=some m->vs[i]?=some v->RM σ m v/\flat v=true
theorem lz.mono{σ τ:Sg}(e:dW σ τ){ms:List M}{b:Array Value}(h:lz σ ms b):lz τ ms b:=
 ⟨h.1,λa m v c d=>⟨(h.2 a m v c d).1.mono e,(h.2 a m v c d).2⟩⟩
def Ob.live:Ob->Prop
 | .dead=>False
 | .free=>False
 |_=>True
def Ob.kE:Ob->Nat->Prop
 | .box _,_=>True
 | .map _,_=>True
 | .iter _,_=>True
 | .row acc _ _ cs,o=>acc=false\/cs.length<=o
 | .dead,_=>False
 | .free,_=>False
theorem Ob.j7{ob:Ob}{o:Nat}(h:ob.kE o):ob.live:=by cases ob<;>first|trivial|exact h
def He:D->Option Value
 | .str s=>some (.string s)
 | .int k n=>some (.int k n)
 |_=>none
def w7(σ:Sg)(e:D×M)(u:MapEntry):Prop:=(He e.1=some u.key/\RM σ e.2 u.val)\/(e.1= .bX/\RM σ e.2 (.tuple #[u.key,u.val]))
theorem w7.up{σ τ:Sg}{e:D×M}{m:M}{u:MapEntry}(h:w7 σ e u)(c: ∀v,RM σ e.2 v->RM τ m v):w7 τ (e.1,m) u:=by
 rcases h with⟨a,b⟩|⟨a,b⟩
 ·exact .inl ⟨a,c _ b⟩
 ·exact .inr ⟨a,c _ b⟩
def gZ(σ:Sg)(b:Nat):Ob->Prop
 | .box cs=> ∃PB T,σ.w.heap[b]?=some (.cells PB T (0,0))/\lz σ cs PB
 | .row acc ec aL cs=>0<ec/\ ∃PB T cap n,σ.w.heap[b]?=some (.cells PB T (0,0))/\PB.size=cap*ec/\n<=cap/\(cs.length=n*ec/\n<=140737488355328)/\
   ∀(i:Nat) (m:M) (v:Value),cs[i]?=some m->PB[i]?=some v->RM σ m v/\flat v=true
 | .map es=> ∃S2 clock,σ.w.heap[b]?=some (.map S2 clock)/\S2.size=es.length/\ ∀(i:Nat) e u,es[i]?=some e->S2[i]?=some u->w7 σ e u
 | .iter x=> ∃om since last,σ.w.heap[b]?=some (.mapIter om since #[] last)/\RM σ x (.map om)
 | .dead=>True
 | .free=>True
structure ln(σ:Sg)(Oo:Nat->Nat->Prop):Prop where
 obj: ∀(i:Nat) ob,σ.H[i]?=some ob->gZ σ (σ.l i) ob
 inj: ∀(i j:Nat) x y,σ.H[i]?=some x->σ.H[j]?=some y->x.live->y.live->σ.l i=σ.l j->i=j
 own: ∀b o,σ.O b o↔Oo b o\/ ∃(i:Nat) (ob:Ob),σ.H[i]?=some ob/\σ.l i=b/\ob.kE o
 sep: ∀(i:Nat) ob,σ.H[i]?=some ob->ob.live-> ∀o,¬Oo (σ.l i) o
 nt: ∀b o,Oo b o->b<σ.w.heap.size
theorem gZ.lt{σ:Sg}{b:Nat}{ob:Ob}(h:gZ σ b ob)(g:ob.live):b<σ.w.heap.size:=by
 have d: ∀f:Obj,σ.w.heap[b]?=some f->b<σ.w.heap.size:=by
  intro f j;rcases auM b σ.w.heap.size with h|h
  ·exact h
  ·simp[avu h]at j
 cases ob with
 |box k=>obtain⟨l,i,a,_⟩:=h;exact d _ a
 |row q n o k=>obtain⟨_,l,i,r,m,a,_⟩:=h;exact d _ a
 |map p=>obtain⟨e,c,a,_⟩:=h;exact d _ a
 |iter f=>obtain⟨_,_,_,a,_⟩:=h;exact d _ a
 |dead=>exact g.elim
 |free=>exact g.elim
theorem ln.DK{σ:Sg}{d:Nat->Nat->Prop}(h:ln σ d): ∀b o,σ.O b o->b<σ.w.heap.size:=by
 intro b o e;rcases(h.own b o).1 e with a|⟨c,f,a,g,i⟩
 ·exact h.nt b o a
 ·rw[<-g];exact(h.obj c f a).lt (Ob.j7 i)
structure bj(σ τ:Sg):Prop where
 os:τ.w.os=σ.w.os
 output:τ.w.output=σ.w.output
 tape:τ.w.tape=σ.w.tape
 size:σ.w.heap.size<=τ.w.heap.size
 cy: ∀b,b<σ.w.heap.size->(∀(i:Nat) ob,σ.H[i]?=some ob->ob.live->σ.l i≠b)->τ.w.heap[b]?=σ.w.heap[b]?
 loc: ∀(i:Nat) ob,τ.H[i]?=some ob->ob.live->σ.w.heap.size<=τ.l i\/ ∃QK,σ.H[i]?=some QK/\QK.live/\τ.l i=σ.l i
theorem bj.refl(σ:Sg):bj σ σ:=⟨rfl,rfl,rfl,auK _,λ_ _ _=>rfl,λd b a c=> .inr ⟨b,a,c,rfl⟩⟩
theorem bj.trans{σ τ m:Sg}(h:bj σ τ)(k:bj τ m):bj σ m:=by
 refine⟨k.os.trans h.os,k.output.trans h.output,k.tape.trans h.tape,avD h.size k.size,?_,?_⟩
 ·intro b n o;rw[k.cy b (avR n h.size) ?_,h.cy b n o];intro c e f g p;rcases h.loc c e f g with a|⟨i,a,j,d⟩
  ·omega
  ·exact o c i a j (by rw[<-d];exact p)
 ·intro c e f g;rcases k.loc c e f g with a|⟨i,a,j,d⟩
  ·exact .inl (avD h.size a)
  ·rcases h.loc c i a j with l|⟨s,l,q,r⟩
   ·exact .inl (by rw[d];exact l)
   ·exact .inr ⟨s,l,q,d.trans r⟩
inductive RV(σ:Sg)(Pw:Nat->Nat):V->Value->Prop where
 |m {x:M} {v:Value} (h:RM σ x v):RV σ Pw (.m x) v
 |loc (t off:Nat):RV σ Pw (.loc t off) (.pointer (some ⟨Pw t,off,none⟩))
 |tl (i aL off len:Nat) (a:Option Addr) (cap:Nat)
   (hle:σ.H[i]?=some .dead\/ ∃acc ec Ql cs,σ.H[i]?=some (.row acc ec Ql cs)/\aL<=Ql)
   (Rb: ∀acc ec cs,σ.H[i]?=some (.row acc ec aL cs)->(cap≠0->a=some ⟨σ.l i,off*ec,none⟩)/\cs.length=(off+len)*ec/\ ∃PB T,σ.w.heap[σ.l i]?=some (.cells PB T (0,0))/\PB.size=(off+cap)*ec):
   RV σ Pw (.tl i aL off len) (.slice a len cap)
theorem RV.mono{σ τ:Sg}{Pw:Nat->Nat}(d:dW σ τ){x:V}{v:Value}(h:RV σ Pw x v):RV τ Pw x v:=by
 cases h with
 |m h=>exact .m (h.mono d)
 |loc z j=>exact .loc z j
 |tl c A j U B X s C=>
  refine .tl c A j U B X ?_ λt g l a=> ?_
  ·rcases s with h|⟨t,g,D,l,f,n⟩
   ·exact .inl (d.dead c h)
   ·rcases d.row c t g D l f with b|⟨o,i,p,b,q,_⟩
    ·exact .inl b
    ·exact .inr ⟨o,g,i,p,b,avD n q⟩
  ·rcases s with h|⟨r,u,w,y,f,n⟩
   ·have:=d.dead c h;rw[this]at a;cases a
   ·rcases d.row c r u w y f with b|⟨o,i,p,b,q,E⟩
    ·rw[b]at a;cases a
    ·rw[b]at a;injection a with a
     injection a with F G H I
     subst F;subst G;subst I;subst H;have e:w=i:=by omega
     subst e;obtain⟨J,K,L⟩:=E W;obtain⟨M,N,O,k,P,Q⟩:=C r u y f;obtain⟨R,S,T⟩:=L O k P;rw[J];exact⟨M,K.trans N,R,k,S,T.trans Q⟩
def o8(kL:Nat->Nat->Prop)(Pw:Nat->Nat)(bx:List (Nat×List M))(b o:Nat):Prop:=
 kL b o\/ ∃t cs,get bx t=some cs/\Pw t=b
structure bJ where
 P:Program
 n:Nat
 s0:Sg
 kL:Nat->Nat->Prop
 df:List Deferred
structure cE(X:bJ)(σ:Sg)(Pw:Nat->Nat)(st:St)(a:Act):Prop where
 hH:σ.H=st.H
 defers:a.defers=X.df
 size:a.tmps.size=X.n
 slot: ∀t v,get st.sl t=some v-> ∃u,a.tmps[t]?=some u/\RV σ Pw v u
 box: ∀t cs,get st.bx t=some cs->gZ σ (Pw t) (.box cs)
 sP: ∀t u cs ds,get st.bx t=some cs->get st.bx u=some ds->Pw t=Pw u->t=u
 th: ∀t cs,get st.bx t=some cs-> ∀o,¬X.kL (Pw t) o
 tj: ∀t cs,get st.bx t=some cs->X.s0.w.heap.size<=Pw t
 hinv:ln σ (o8 X.kL Pw st.bx)
 mono:dW X.s0 σ
 cy:bj X.s0 σ
def Inv(X:bJ)(st:St)(a:Act)(w:World):Prop:= ∃σ Pw,σ.w=w/\cE X σ Pw st a
def TC(X:bJ)(c:Code)(st:St)(post:Exit->St->Prop):Prop:=
 ∀a w,Inv X st a w->c.wp X.P (λe a' w'=> ∃PD,post e PD/\Inv X PD a' w') a w
def TL(X:bJ)(ops:Array Oper)(l:List Oper)(st:St)(post:St->Prop):Prop:=
 ∀a w,Inv X st a w->wpList X.P ops (λe a' w'=>e= .normal/\ ∃PD,post PD/\Inv X PD a' w') l a w
def after(post:Exit->St->Prop)(k:St->Prop):Exit->St->Prop
 | .normal,s=>k s
 |e,s=>post e s
section code
variable{X:bJ}{st:St}{post:Exit->St->Prop}
theorem TC.mono{c:Code}{b:Exit->St->Prop}(h:TC X c st post)(g: ∀e a,post e a->b e a):TC X c st b:=
 λd f i=>wp_mono (h d f i) λe l m ⟨a,j,k⟩=>⟨a,g _ _ j,k⟩
theorem TC.seq{x y:Code}(h:TC X x st (after post λa=>TC X y a post)):TC X (.seq x y) st post:=by
 intro b c d;refine wp_seq (wp_mono (h b c d) ?_);intro e f g ⟨a,h1,h2⟩;cases e with
 |normal=>exact h1 f g h2
 |_=>exact⟨a,h1,h2⟩
theorem TC.skip(h:post .normal st):TC X .skip st post:= λb c a=>wp_skip ⟨st,h,a⟩
theorem TC.exit{a:Nat}(h:post (.exit a) st):TC X (.exit a) st post:= λc d b=>wp_exit ⟨st,h,b⟩
theorem TC.ret(h:post .ret st):TC X .ret st post:= λb c a=>wp_ret ⟨st,h,a⟩
def tm(id:Nat)(post:Exit->St->Prop):Exit->St->Prop
 | .exit i,s=>if i=id then post .normal s else post (.exit i) s
 |e,s=>post e s
theorem TC.block{a:Nat}{c:Code}(h:TC X c st (tm a post)):TC X (.block a c) st post:=by
 intro d f i;refine wp_block (wp_mono (h d f i) ?_);intro e j k ⟨s,h1,h2⟩;cases e with
 |exit g=>
  simp only[tm]at h1;simp only[Exit.inBlock];by_cases b:g=a
  ·rw[au2 b]at h1⊢;exact⟨s,h1,h2⟩
  ·rw[auU b]at h1⊢;exact⟨s,h1,h2⟩
 |_=>exact⟨s,h1,h2⟩
theorem TC.region{u:Nat}{ops:List Oper}(h:TL X ops.toArray ops st (post .normal)):TC X (.region u ops.toArray false) st post:=by
 intro a b v;refine wp_region_lit ?_;have y: ∀j a b,wpList X.P ops.toArray (λe n k=>e= .normal/\ ∃c,post .normal c/\Inv X c n k) j a b->
   wpList X.P ops.toArray (λe n k=> ∃c,post e c/\Inv X c n k) j a b:=by
  have f: ∀(e:Exit) a b,(e= .normal/\ ∃c,post .normal c/\Inv X c a b)-> ∃c,post e c/\Inv X c a b:=by
   rintro e a b ⟨rfl,h⟩;exact h
  have r: ∀(d g:Exit->Act->World->Prop),(∀e a b,d e a b->g e a b)->LetsOut d->LetsOut g:= λd g h ⟨a,b,s⟩=>⟨a,b,h _ _ _ s⟩
  have up: ∀(i:Oper) (a:Act) (b:World) (next p:Act->World->Prop) (d g:Exit->Act->World->Prop),(∀a b,next a b->p a b)->(∀e a b,d e a b->g e a b)->i.wp X.P a b next d->i.wp X.P a b p g:=by
   intro i a b next p d g hn f h
   unfold Oper.wp at*;generalize (execOp a.eval i).run X.P b=t at*;cases t with
   |ok m k=>
    cases m<;>simp only[Oper.upon]at h⊢ <;>
     first
      |exact hn _ _ h
      |exact Calls.mono h (λe z l=>by cases e<;>first|exact hn _ _ l|exact f _ _ _ l|exact r _ _ f l)
      |exact Rows.mono h (λ_ _ l=>hn _ _ l)
      |exact h
   |halt m k=>cases m<;>simp only[Oper.upon]at h⊢ <;>first|exact f _ _ _ h|exact h
  intro j
  induction j with
  |nil=>intro a b h;exact f _ _ _ h
  |cons i j q=>
   intro a b h;unfold wpList at h⊢;split
   ·rename_i o;rw[au2 o]at h;rcases h with h|⟨w,x⟩
    ·exact .inl (up i a b _ _ _ _ q f h)
    ·exact .inr ⟨w,r _ _ f x⟩
   ·rename_i o;rw[auU o]at h;exact q _ _ h
 exact y _ _ _ (h a b v)
end code
def dT(P:Program)(o:Oper)(ρ:Operand->Value)(w:World)(post:Value->World->Prop):Prop:=
 match(execOp ρ o).run P w with
 | .ok (.value u) w'=>post u w'
 | .ok .skip w'=>post undef w'
 | .ok (.enter f args) w'=>Calls P f args w' λe Xu=> ∃u,e= .returned u/\post u Xu
 |_=>False
theorem dT.value{P:Program}{o:Oper}{ρ:Operand->Value}{w w':World}{u:Value}{post:Value->World->Prop}
  (h:(execOp ρ o).run P w= .ok (.value u) w') (a:post u w'):dT P o ρ w post:=by
 unfold dT;rw[h];exact a
theorem dT.skip{P:Program}{o:Oper}{ρ:Operand->Value}{w w':World}{post:Value->World->Prop}
  (h:(execOp ρ o).run P w= .ok .skip w') (a:post undef w'):dT P o ρ w post:=by
 unfold dT;rw[h];exact a
theorem dT.enter{P:Program}{o:Oper}{ρ:Operand->Value}{w w':World}{f:Nat}{args:Array Value}{post:Value->World->Prop}
  (h:(execOp ρ o).run P w= .ok (.enter f args) w') (b:Calls P f args w' λe c=> ∃a,e= .returned a/\post a c):dT P o ρ w post:=by
 unfold dT;rw[h];exact b
theorem dT.wp{P:Program}{o:Oper}{a:Act}{w:World}{post:Value->World->Prop}{next:Act->World->Prop}{Q:Exit->Act->World->Prop}
  (h:dT P o a.eval w post) (f: ∀c b,post c b->next (a.put o.dst c) b):o.wp P a w next Q:=by
 unfold dT at h;unfold Oper.wp;generalize (execOp a.eval o).run P w=g at*;cases g with
 |ok d b=>
  cases d<;>simp only[Oper.upon]at h⊢ <;>
   first
    |exact f _ _ h
    |exact h.elim
    |exact Calls.mono h (λe k ⟨c,i,j⟩=>by subst i;exact f _ _ j)
 |halt d b=>simp at h
def cQ(X:bJ)(o:Oper)(st:St)(post:V->St->Prop):Prop:=
 ∀a σ Pw,cE X σ Pw st a->dT X.P o a.eval σ.w λu w'=> ∃v PD PW QY,post v PD/\PW.w=w'/\cE X PW QY PD a/\RV PW QY v u
def kp(ops:Array Oper)(o:Oper)(st:St):Option Bool:=
 match o.guard with
 |none=>some true
 |some (j,want)=>match(ops[j]?).bind (·.dst)with
  |some g=>match get st.sl g with
   |some (.m (.d (.bool b)))=>some (b==want)
   |some (.m (.dq []))=>some false
   |_=>none
  |none=>none
theorem bQ{b:Type}(k t:Nat)(v:b)(l:List (Nat×b)):get ((k,v)::l) t=if k=t then some v else get l t:=by
 show(bif Nat.beq k t then some v else get l t)=_;by_cases a:k=t
 ·subst a;simp
 ·have:Nat.beq k t=false:=by rw[<-avX];intro e;exact a (auZ e)
  rw[this,auU a];rfl
theorem cE.set{X:bJ}{σ:Sg}{Pw:Nat->Nat}{sl:List (Nat×V)}{bx:List (Nat×List M)}{H:Hp}{a:Act}{d:Nat}{v:V}{u:Value}
  (h:cE X σ Pw ⟨sl,bx,H⟩ a) (g:d<X.n) (i:RV σ Pw v u):cE X σ Pw ⟨(d,v)::sl,bx,H⟩ (a.put (some d) u):=by
 refine⟨h.hH,h.defers,?_,?_,h.box,h.sP,h.th,h.tj,h.hinv,h.mono,h.cy⟩
 ·simp[Act.put,h.size]
 ·intro c f b;simp only[bQ]at b;by_cases e:d=c
  ·subst e;simp at b;subst b;refine⟨u,?_,i⟩;simp[Act.put,h.size,g]
  ·rw[auU e]at b;obtain⟨j,k,l⟩:=h.slot c f b;refine⟨j,?_,l⟩;simp[Act.put,avO e,k]
theorem cE.wanted{X:bJ}{σ:Sg}{Pw:Nat->Nat}{st:St}{a:Act}(h:cE X σ Pw st a){ops:Array Oper}{o:Oper}{b:Bool}
  (c:kp ops o st=some b):Region.wanted o (yielded ops a.tmps)=b:=by
 unfold kp at c;unfold Region.wanted;split at c
 ·rename_i f;simp only[f];injection c with e
 ·rename_i s p f;simp only[f];split at c
  ·rename_i t l;split at c
   ·rename_i n g;obtain⟨q,i,j⟩:=h.slot _ _ g;cases j with
    |m k=>cases k with
     |d r=>cases r with
      |bool n=>
       injection c with e
       subst e;simp only[yielded,l,axi,i];cases n<;>cases p<;>rfl
   ·rename_i g;obtain⟨q,i,j⟩:=h.slot _ _ g;cases j with
    |m k=>cases k with
     |dq u v w x=>
      injection c with e
      subst e;simp only[yielded,l,axi,i];cases p<;>rfl
   ·cases c
  ·cases c
theorem bO{a b:Nat}(h:Nat.blt a b=true):a<b:=by rw[Nat.blt_eq]at h;exact h
theorem TL.op{X:bJ}{ops:Array Oper}{o:Oper}{rest:List Oper}{st:St}{post:St->Prop}{b:V->St->Prop}{d:Nat}
  (g:kp ops o st=some true) (i:o.dst=some d) (j:Nat.blt d X.n=true) (h:cQ X o st b)
  (k: ∀v a,b v a->TL X ops rest ⟨(d,v)::a.sl,a.bx,a.H⟩ post):TL X ops (o::rest) st post:=by
 rintro e t ⟨f,l,rfl,c⟩;unfold wpList;rw[au2 (c.wanted g)];refine .inl ((h e f l c).wp ?_);rintro u w ⟨v,a,m,n,p,q,r,s⟩;rw[i];exact k v a p _ _ ⟨m,n,q,r.set (bO j) s⟩
theorem TL.O7{X:bJ}{ops:Array Oper}{o:Oper}{rest:List Oper}{st:St}{post:St->Prop}{b:V->St->Prop}
  (f:kp ops o st=some true) (g:o.dst=none) (h:cQ X o st b)
  (k: ∀v a,b v a->TL X ops rest a post):TL X ops (o::rest) st post:=by
 rintro d q ⟨e,i,rfl,c⟩;unfold wpList;rw[au2 (c.wanted f)];refine .inl ((h d e i c).wp ?_);rintro r s ⟨v,a,j,l,m,n,p,t⟩;rw[g];exact k v a m _ _ ⟨j,l,n,p⟩
theorem TL.skip{X:bJ}{ops:Array Oper}{o:Oper}{rest:List Oper}{st:St}{post:St->Prop}{d:Nat}
  (b:kp ops o st=some false) (c:o.dst=some d) (e:Nat.blt d X.n=true)
  (k:TL X ops rest ⟨(d,.m (.dq []))::st.sl,st.bx,st.H⟩ post):TL X ops (o::rest) st post:=by
 intro f g ⟨σ,Pw,RW,hi⟩;unfold wpList;rw[auU (by rw[hi.wanted b];simp)];rw[c];exact k _ _ ⟨σ,Pw,RW,hi.set (bO e) (.m (.dq [] #[] W (by intro h m v a;simp at a)))⟩
theorem TL.nil{X:bJ}{ops:Array Oper}{st:St}{post:St->Prop}(h:post st):TL X ops [] st post:=
 λb c a=>⟨rfl,st,h,a⟩
def dy(v:V)(st:St):V->St->Prop:= λv' s'=>v'=v/\s'=st
theorem TL.mL{X:bJ}{ops:Array Oper}{o:Oper}{rest:List Oper}{st:St}{post:St->Prop}{v:V}{s:St}{d:Nat}
  (a:kp ops o st=some true) (b:o.dst=some d) (c:Nat.blt d X.n=true) (h:cQ X o st (dy v s))
  (k:TL X ops rest ⟨(d,v)::s.sl,s.bx,s.H⟩ post):TL X ops (o::rest) st post:=
 TL.op a b c h λg i ⟨e,f⟩=>by subst e;subst f;exact k
theorem TL.Hf{X:bJ}{ops:Array Oper}{o:Oper}{rest:List Oper}{st:St}{post:St->Prop}{v:V}{s:St}
  (a:kp ops o st=some true) (b:o.dst=none) (h:cQ X o st (dy v s))
  (k:TL X ops rest s post):TL X ops (o::rest) st post:=
 TL.O7 a b h λe f ⟨c,d⟩=>by subst c;subst d;exact k
theorem PN{X:bJ}{o:Oper}{st:St}{v:V}(h: ∀c a b,cE X a b st c-> ∃d,(execOp c.eval o).run X.P a.w= .ok (.value d) a.w/\RV a b v d):
  cQ X o st (dy v st):=by
 intro c a b e;obtain⟨d,f,g⟩:=h c a b e;exact dT.value f ⟨v,st,a,b,⟨W,W⟩,W,e,g⟩
theorem vY{O:Nat->Nat->Prop}{w:World}{v:Value}{d:D}(h:qX v=some d):gv O w d v:=by
 unfold qX at h;split at h<;>first
  |(injection h with h;subst h;constructor)
  |cases h
theorem uT{O:Nat->Nat->Prop}{w:World} : ∀{e:List Value} {ds:List D},mB e=some ds->
  e.length=ds.length/\ ∀(i:Nat) d v,ds[i]?=some d->e[i]?=some v->gv O w d v
 | [],ds,a=>by simp[mB]at a;subst a;simp
 |v::m,ds,a=>by
  simp only[mB]at a;split at a
  ·rename_i d n f g;injection a with a;subst a
   obtain⟨h,j⟩:=uT (O:=O) (w:=w) g;refine⟨by simp[h],λi k l b c=> ?_⟩;cases i with
   |zero=>simp at b c;subst b;subst c;exact vY f
   |succ i=>simp at b c;exact j i k l b c
  ·cases a
theorem A8{v:Value}{d:D}(h:qX v=some d):flat v=true:=by
 unfold qX at h;split at h<;>first|rfl|cases h
theorem tq: ∀{c:List Value} {ds:List D},mB c=some ds-> ∀(i:Nat) (v:Value),c[i]?=some v->flat v=true
 | [],ds,b,i,v,a=>by simp at a
 |g::h,ds,b,i,v,a=>by
  simp only[mB]at b;split at b
  ·rename_i d j e f;cases i with
   |zero=>simp at a;subst a;exact A8 e
   |succ i=>simp at a;exact tq f i v a
  ·cases b
theorem fC{O:Nat->Nat->Prop}{w:World}{v:Value}{d:D}(h:rL v=some d):gv O w d v:=by
 unfold rL at h;split at h
 ·rename_i e;cases a:mB e.toList with
  |none=>simp[a]at h
  |some f=>
   simp[a]at h;subst h;obtain⟨g,i⟩:=uT (O:=O) (w:=w) a;exact .agg f e (by simpa using g) (λb v c=>tq a b v (by simpa using c)) (λb d v j c=>i b d v j (by simpa using c))
 ·exact vY h
theorem cE.ev{X:bJ}{σ:Sg}{Pw:Nat->Nat}{st:St}{a:Act}(h:cE X σ Pw st a){x:Operand}{v:V}(b:st.ev x=some v):
  RV σ Pw v (a.eval x):=by
 cases x with
 |tmp f=>
  obtain⟨g,j,k⟩:=h.slot f v b;have:a.eval (.tmp f)=g:=by simp[Act.eval,j]
  rw[this];exact k
 |const c=>
  simp only[St.ev,bw]at b;cases e:rL c with
  |none=>simp[e]at b
  |some d=>simp[e]at b;subst b;exact .m (.d (fC e))
 |func i=>
  simp only[St.ev,bw]at b;injection b with b;subst b
  exact .m (.d (.fn i [] #[] W (by simp)))
 |global l=>simp[St.ev,bw]at b
section ops
variable{X:bJ}{st:St}{dst:Option Nat}{ty:Nat}{pos:String}{af:Array Edge}{g:Option (Nat×Bool)}
theorem DM{x:Operand}{v:V}(a:st.ev x=some v):cQ X ⟨dst,.move x,ty,pos,af,g⟩ st (dy v st):=
 PN λc d e b=>⟨_,by simp[execOp],b.ev a⟩
theorem Fz{x:Operand}{v:V}(a:st.ev x=some v):cQ X ⟨dst,.assign x,ty,pos,af,g⟩ st (dy v st):=
 PN λc d e b=>⟨_,by simp[execOp],b.ev a⟩
theorem cE.qc{σ:Sg}{Pw:Nat->Nat}{a:Act}(h:cE X σ Pw st a){x:Operand}{d:D}(b:st.ev x=some (.m (.d d))):
  gv σ.O σ.w d (a.eval x):=by
 have:=h.ev b;cases this with
 |m h=>cases h with
  |d h=>exact h
theorem cE.uA{σ:Sg}{Pw:Nat->Nat}{a:Act}(h:cE X σ Pw st a){x:Operand}{b:Bool}(c:st.ev x=some (.m (.d (.bool b)))):
  a.eval x= .bool b:=by
 have:=h.qc c;generalize a.eval x=d at*;cases this;rfl
theorem cE.lA{σ:Sg}{Pw:Nat->Nat}{a:Act}(h:cE X σ Pw st a){x:Operand}{k:IntKind}{n:Int}(b:st.ev x=some (.m (.d (.int k n)))):
  a.eval x= .int k n:=by
 have:=h.qc b;generalize a.eval x=c at*;cases this;rfl
theorem cE.w8{σ:Sg}{Pw:Nat->Nat}{a:Act}(h:cE X σ Pw st a){x:Operand}{s:ByteArray}(b:st.ev x=some (.m (.d (.str s)))):
  a.eval x= .string s:=by
 have:=h.qc b;generalize a.eval x=c at*;cases this;rfl
theorem FB{c x y:Operand}{v:V}(b:st.ev c=some (.m (.d (.bool true))))(d:st.ev x=some v):
  cQ X ⟨dst,.pick c x y,ty,pos,af,g⟩ st (dy v st):=
 PN λe f h a=>⟨_,by simp[execOp,a.uA b,asBool],a.ev d⟩
theorem FC{c x y:Operand}{v:V}(b:st.ev c=some (.m (.d (.bool false))))(d:st.ev y=some v):
  cQ X ⟨dst,.pick c x y,ty,pos,af,g⟩ st (dy v st):=
 PN λe f h a=>⟨_,by simp[execOp,a.uA b,asBool],a.ev d⟩
def mM:BinOp->IntKind->Int->Int->Option D
 | .add,k,a,b=>some (.int k (k.wrap (a+b)))
 | .sub,k,a,b=>some (.int k (k.wrap (a-b)))
 | .mul,k,a,b=>some (.int k (k.wrap (a*b)))
 | .eql,_,a,b=>some (.bool (a==b))
 | .neq,_,a,b=>some (.bool (a !=b))
 | .lss,_,a,b=>some (.bool (decide (a<b)))
 | .leq,_,a,b=>some (.bool (decide (a<=b)))
 | .gtr,_,a,b=>some (.bool (decide (a>b)))
 | .geq,_,a,b=>some (.bool (decide (a>=b)))
 |_,_,_,_=>none
theorem vZ{op:BinOp}{c d:Nat}{x y:Operand}{k:IntKind}{m n:Int}{r:D}(e:st.ev x=some (.m (.d (.int k m))))(f:st.ev y=some (.m (.d (.int k n))))
  (a:mM op k m n=some r):cQ X ⟨dst,.binOp op c x y d,ty,pos,af,g⟩ st (dy (.m (.d r)) st):=by
 refine PN λj l o b=> ?_
 have h:=b.lA e;have i:=b.lA f;cases op<;>simp only[mM]at a<;>first|(injection a with a;subst a;refine⟨_,by simp[execOp,h,i,eqGuard,binOp,Op.intArith,Op.intCmp];rfl,?_⟩;exact .m (.d (by constructor)))|cases a
theorem Hg{b c:Nat}{x y:Operand}{k:IntKind}{m n:Int}(d:st.ev x=some (.m (.d (.int k m))))(e:st.ev y=some (.m (.d (.int k n))))
  (f:(n==0)=false):cQ X ⟨dst,.binOp .quo b x y c,ty,pos,af,g⟩ st (dy (.m (.d (.int k (k.wrap (m.tdiv n))))) st):=by
 refine PN λl o p a=> ?_
 have h:=a.lA d;have i:=a.lA e;have j: ¬n=0:=by simpa using f
 exact⟨_,by simp[execOp,h,i,eqGuard,binOp,Op.intDiv,j];rfl,.m (.d (by constructor))⟩
theorem Hh{b c:Nat}{x y:Operand}{k:IntKind}{m n:Int}(d:st.ev x=some (.m (.d (.int k m))))(e:st.ev y=some (.m (.d (.int k n))))
  (f:(n==0)=false):cQ X ⟨dst,.binOp .rem b x y c,ty,pos,af,g⟩ st (dy (.m (.d (.int k (m.tmod n)))) st):=by
 refine PN λl o p a=> ?_
 have h:=a.lA d;have i:=a.lA e;have j: ¬n=0:=by simpa using f
 exact⟨_,by simp[execOp,h,i,eqGuard,binOp,Op.intDiv,j];rfl,.m (.d (by constructor))⟩
theorem LM{x:Operand}{a:Nat}{b:Bool}(c:st.ev x=some (.m (.d (.bool b)))):cQ X ⟨dst,.unOp .not a x,ty,pos,af,g⟩ st (dy (.m (.d (.bool (!b)))) st):=by
 refine PN λf h i d=> ?_
 have e:=d.uA c;exact⟨_,by simp[execOp,e,Op.unary];rfl,.m (.d (by constructor))⟩
theorem LN{x:Operand}{a:Nat}{k:IntKind}{n:Int}(b:st.ev x=some (.m (.d (.int k n)))):cQ X ⟨dst,.unOp .neg a x,ty,pos,af,g⟩ st (dy (.m (.d (.int k (k.wrap (-n))))) st):=by
 refine PN λe f h c=> ?_
 have d:=c.lA b;exact⟨_,by simp[execOp,d,Op.unary,Op.intArith];rfl,.m (.d (by constructor))⟩
theorem tr(a b:ByteArray):(a.toList==b.toList)=decide (a=b):=by
 rw[aw4];simp;constructor
 ·intro c;have:a.data.toList=b.data.toList:=by
   rw[ByteArray.toList_eq,ByteArray.toList_eq]at c;exact c
  cases a;cases b;simp at this;simp[this]
 ·rintro rfl;rfl
end ops
structure gG(w w':World):Prop where
 os:w'.os=w.os
 output:w'.output=w.output
 tape:w'.tape=w.tape
 size:w.heap.size<=w'.heap.size
 cy: ∀b,b<w.heap.size->w'.heap[b]?=w.heap[b]?
theorem gG.alloc(w:World)(o:Obj):gG w {w with heap:=w.heap.push o} :=
 ⟨rfl,rfl,rfl,by simp,λb a=>by simp[awI];omega⟩
theorem gG.drew(w:World):gG w {w with drawn:=w.drawn+1} :=⟨rfl,rfl,rfl,auK _,λ_ _=>rfl⟩
theorem gH{w:World}{b:Nat}{x:Obj}(h:w.heap[b]?=some x):b<w.heap.size:=by
 rcases auM b w.heap.size with a|a
 ·exact a
 ·simp[avu a]at h
theorem mN{w:World}{b o:Nat}{v:Value}(h:dI w b o=some v):b<w.heap.size:=by
 unfold dI World.cell? at h;cases a:w.heap[b]? with
 |none=>simp[a]at h
 |some c=>exact gH a
theorem nZ{w w':World}{b o:Nat}(h:w'.heap[b]?=w.heap[b]?):dI w' b o=dI w b o:=by
 unfold dI World.cell?;rw[h]
theorem gG.cell{w w':World}(h:gG w w'){b o:Nat}{v:Value}(a:dI w b o=some v):dI w' b o=some v:=by
 rw[nZ (h.cy b (mN a))];exact a
theorem gG.heap{w w':World}(h:gG w w'){b:Nat}{x:Obj}(a:w.heap[b]?=some x):w'.heap[b]?=some x:=by
 rw[h.cy b (gH a)];exact a
theorem dW.ext{σ:Sg}{w':World}(h:gG σ.w w'):dW σ {σ with w:=w'} :=
 ⟨λb k v a e=>⟨h.cell a,e⟩,λd c a=>⟨⟨c,a⟩,rfl⟩,λd c a=>⟨⟨c,a⟩,rfl⟩,λd c a=>⟨⟨c,a⟩,rfl⟩,λd a=>a,
 λd j m f c a=> .inr ⟨j,f,c,a,auK _,λ_=>⟨rfl,rfl,λg l i=>⟨g,h.heap i,rfl⟩⟩⟩,λ_ h=>⟨_,h⟩⟩
theorem gZ.cK{σ τ:Sg}(i:dW σ τ){b b':Nat}{ob:Ob}(j: ∀k,σ.w.heap[b]?=some k->τ.w.heap[b']?=some k)(h:gZ σ b ob):gZ τ b' ob:=by
 cases ob with
 |box u=>obtain⟨n,l,a,d⟩:=h;exact⟨n,l,j _ a,d.mono i⟩
 |row E B C u=>obtain⟨w,n,l,A,q,a,d,o,x,p⟩:=h;exact⟨w,n,l,A,q,j _ a,d,o,x,λf m v g b=>⟨(p f m v g b).1.mono i,(p f m v g b).2⟩⟩
 |map D=>obtain⟨e,c,a,d,o⟩:=h;exact⟨e,c,j _ a,d,λf e r g b=>(o f e r g b).up λv y=>y.mono i⟩
 |iter k=>obtain⟨z,s,t,a,d⟩:=h;exact⟨z,s,t,j _ a,d.mono i⟩
 |dead=>trivial
 |free=>trivial
theorem ln.ext{σ:Sg}{a:Nat->Nat->Prop}{w':World}(hi:ln σ a)(h:gG σ.w w'):ln {σ with w:=w'} a:=
 ⟨λc e f=>(hi.obj c e f).cK (dW.ext h) (λj g=>h.heap g),hi.inj,hi.own,hi.sep,λb d i=>avR (hi.nt b d i) h.size⟩
theorem bj.ext{σ:Sg}{w':World}(h:gG σ.w w'):bj σ {σ with w:=w'} :=
 ⟨h.os,h.output,h.tape,h.size,λb a _=>h.cy b a,λf c d e=> .inr ⟨c,d,e,rfl⟩⟩
theorem cE.ext{X:bJ}{σ:Sg}{Pw:Nat->Nat}{st:St}{a:Act}{w':World}(hi:cE X σ Pw st a)(h:gG σ.w w'):
  cE X {σ with w:=w'} Pw st a:=
 ⟨hi.hH,hi.defers,hi.size,λb v c=>let⟨d,e,f⟩:=hi.slot b v c;⟨d,e,f.mono (dW.ext h)⟩,
 λb g c=>(hi.box b g c).cK (dW.ext h) (λj i=>h.heap i),hi.sP,hi.th,hi.tj,hi.hinv.ext h,
 hi.mono.trans (dW.ext h),hi.cy.trans (bj.ext h)⟩
theorem cQ.grow{X:bJ}{o:Oper}{st:St}{v:V}(h: ∀d a b,cE X a b st d-> ∃e c,(execOp d.eval o).run X.P a.w= .ok (.value e) c/\gG a.w c/\RV {a with w:=c} b v e):
  cQ X o st (dy v st):=by
 intro d a b f;obtain⟨e,c,g,i,j⟩:=h d a b f;exact dT.value g ⟨v,st,{a with w:=c},b,⟨rfl,rfl⟩,rfl,f.ext i,j⟩
def Hi(O:Nat->Nat->Prop)(w:World)(ds:List D)(vs:Array Value):Prop:=
 vs.size=ds.length/\ ∀(i:Nat) (d:D) (v:Value),ds[i]?=some d->vs[i]?=some v->gv O w d v
def M8(O:Nat->Nat->Prop)(w:World)(ds:List D)(vs:Array Value):Prop:=
 vs.size=ds.length/\ ∀(i:Nat) (d:D) (v:Value),ds[i]?=some d->vs[i]?=some v->gv O w d v/\flat v=true
theorem gv.cells{O:Nat->Nat->Prop}{w:World}{d:D}{v:Value}(h:gv O w d v):M8 O w (bu d) v.cells:=by
 cases h with
 |agg g i e f h=>exact⟨e,λa d v b c=>⟨h a d v b c,f a v c⟩⟩
 |_=>
  refine⟨W,λa j k b c=> ?_⟩;cases a with
  |zero=>simp[bu,Value.cells]at b c;subst b;subst c;exact⟨by constructor<;>assumption,rfl⟩
  |succ a=>simp[bu]at b
def M.i_:M->Bool
 | .undef=>false
 | .dq _=>false
 |_=>true
theorem RM.cells{σ:Sg}{m:M}{v:Value}(h:RM σ m v)(p:m.i_=true):lz σ (cellsOf m) v.cells:=by
 have f: ∀(m:M) (v:Value),RM σ m v->flat v=true->lz σ [m] #[v]:=by
  intro m v h j;refine⟨W,λa y z c e=> ?_⟩;cases a with
  |zero=>simp at c e;subst c;subst e;exact⟨h,j⟩
  |succ a=>simp at c
 cases h with
 |d h=>
  have k:=h.cells;refine⟨by simp[cellsOf,k.1],λa m v c e=> ?_⟩;simp only[cellsOf,au6,avv]at c;obtain⟨d,q,rfl⟩:=c;exact⟨.d (k.2 a d v q e).1,(k.2 a d v q e).2⟩
 |agg g l i j h=>exact⟨i,λa d v c e=>⟨h a d v c e,j a v e⟩⟩
 |ref a o g h=>exact f _ _ (.ref a o g h) W
 |bH a n w r x c e=>exact f _ _ (.bH a n w r x c e) W
 |eI a n o b c e=>exact f _ _ (.eI a n o b c e) W
 |mp a u h=>exact f _ _ (.mp a u h) W
 |it a s h=>exact f _ _ (.it a s h) W
 |fn t g l i h=>exact f _ _ (.fn t g l i h) W
 |dq g l i h=>simp[M.i_]at p
 |undef v=>simp[M.i_]at p
theorem yP(w:World)(a:Array Value)(T:Nat)(b:Nat×Nat)(i:Nat):dI {w with heap:=w.heap.push (.cells a T b)} w.heap.size i=a[i]?:=by
 simp[dI,World.cell?]
theorem gv.LO{O:Nat->Nat->Prop}{w:World}{ds:List D}{c:Array Value}{T:Nat}(j: ∀b g,O b g->b<w.heap.size)(h:M8 O w ds c):
  gv O {w with heap:=w.heap.push (.cells c T (0,0))} (.bm ds 0) (.pointer (some ⟨w.heap.size,0,none⟩)):=by
 refine gv.bm ds 0 w.heap.size 0 (λa=>c.getD a undef) ?_ ?_ ?_
 ·intro a e;refine⟨?_,λk=>by have:=j _ _ k;omega⟩;rw[awc,yP];have:a<c.size:=by rw[h.1];exact e
  simp[this]
 ·intro a e;have f:a<c.size:=by rw[h.1];exact e
  have l:c[a]?=some (c.getD a undef):=by simp[f]
  exact(h.2 a ds[a] _ (by simp[e]) l).2
 ·intro a d i;have e:a<c.size:=by rw[h.1];rcases auM a ds.length with h|h;exact h;simp[auP h]at i
  have:=(h.2 a d (c.getD a undef) i (by simp[e])).1;exact this.mono λb g v m f=>⟨(gG.alloc w _).cell m,f⟩
section ops
variable{X:bJ}{st:St}{dst:Option Nat}{ty:Nat}{pos:String}{af:Array Edge}{g:Option (Nat×Bool)}
theorem LP{t:Nat}{x:Operand}{d:D}(c:st.ev x=some (.m (.d d))):
  cQ X ⟨dst,.box t x,ty,pos,af,g⟩ st (dy (.m (.d (.bm (bu d) 0))) st):=by
 refine cQ.grow λe f h a=> ?_
 have b:=(a.qc c).cells;exact⟨_,_,by simp[execOp,Instr.box,newVar,newRow,newObj,Sem.run];rfl,gG.alloc _ _,.m (.d (gv.LO a.hinv.DK b))⟩
class jM(P:Program)(t:Nat)(n:outParam Nat):Prop where
 agg:u_ P t=some true
 size:gm P t=some n
class bY(P:Program)(t:Nat)(n:outParam Nat):Prop where
 size:gm P t=some n
class g_(P:Program)(t:Nat)(z:outParam D):Prop where
 zero:uz P t=some z
class cB(P:Program)(t:Nat):Prop where
 cell:u_ P t=some false
theorem cB.run{P:Program}{t:Nat}(h:cB P t)(w:World):(isAgg t).run P w= .ok false w:=by
 have:=h.cell;unfold u_ at this;unfold isAgg underlying;simp[program,Sem.run];cases a:P.underlying t with
 |none=>simp[a]at this
 |some d=>cases d<;>simp_all
theorem jM.run{P:Program}{t n:Nat}(h:jM P t n)(w:World):(isAgg t).run P w= .ok true w:=by
 have:=h.agg;unfold u_ at this;unfold isAgg underlying;simp[program,Sem.run];cases a:P.underlying t with
 |none=>simp[a]at this
 |some d=>cases d<;>simp_all
theorem dx{P:Program}{t n:Nat}(h:gm P t=some n)(w:World):(sizeOf t).run P w= .ok n w:=by
 unfold gm at h;unfold sizeOf typeInfo;simp[program,Sem.run];cases a:P.info? t with
 |none=>simp[a]at h
 |some d=>simp[a]at h;simp[h]
theorem mC(b o n:Nat):(⟨b,o,none⟩:Addr).add n=⟨b,o+n,none⟩:=by
 unfold Addr.add;split
 ·rename_i a;subst a;rfl
 ·rfl
theorem yQ{P:Program}{w:World}{b o:Nat}{v:Value}(h:dI w b o=some v):(load ⟨b,o,none⟩).run P w= .ok v w:=by
 unfold dI at h;simp[h]
theorem kM{P:Program}{w:World}{b o:Nat}{a:Array Value} : ∀(n i:Nat) (acc:Array Value),i+n=a.size->acc=a.extract 0 i->
  (∀j,j<a.size->dI w b (o+j)=some (a.getD j undef))->(loadCellsFrom ⟨b,o,none⟩ i n acc).run P w= .ok a w
 |0,i,acc,l,e,_=>by
  have:i=a.size:=by omega
  subst this;simp[loadCellsFrom,e]
 |n+1,i,acc,l,e,h=>by
  have k:i<a.size:=by omega
  rw[loadCellsFrom];simp only[mC,Sem.run_bind,yQ (h i k),Result.andThen_ok];refine kM n (i+1) _ (by omega) ?_ h;rw[e];apply awR;intro c;simp[awI,awe];have:i<=a.size:=by omega
  rcases av6 c i with d|d|d
  ·have m:c<min i a.size:=by omega
   have f: ¬c=min i a.size:=by omega
   have g:c<min (i+1) a.size:=by omega
   simp[f,m,g]
  ·subst d;simp[awN this,k];omega
  ·have f: ¬c=min i a.size:=by omega
   have g: ¬c<min (i+1) a.size:=by omega
   have p: ¬c<min i a.size:=by omega
   simp[f,g,p]
theorem oY{a:Type}(l:List a)(off n i:Nat)(hi:i<n):((l.drop off).take n)[i]?=l[off+i]?:=by
 rw[awK hi,awA]
theorem yR{P:Program}{O:Nat->Nat->Prop}{w:World}{t b o off:Nat}{cs:List D}{val:Nat->Value}{d:D}(g:tg P t cs off=some d)
  (n: ∀a,a<cs.length->dI w b (o+a)=some (val a)/\ ¬O b (o+a)) (y: ∀a,a<cs.length->flat (val a)=true) (p: ∀a d,cs[a]?=some d->gv O w d (val a)):
  ∃u,(Instr.loadAt t (.pointer (some ⟨b,o+off,none⟩))).run P w= .ok u w/\gv O w d u:=by
 unfold tg at g;split at g
 ·rename_i c k q;cases l:Nat.ble (off+c) cs.length with
  |false=>simp[l]at g
  |true=>
   simp only[l,avx,av2]at g;subst g;have C:off+c<=cs.length:=avG l;have m:jM P t c:=⟨k,q⟩
   let e:Array Value:=((List.range c).map λa=>val (off+a)).toArray
   have r:e.size=c:=by simp[e]
   have z:(loadCellsFrom ⟨b,o+off,none⟩ 0 c #[]).run P w= .ok e w:=by
    refine kM c 0 _ (by omega) (by simp) ?_;intro j s;rw[r]at s;have:e.getD j undef=val (off+j):=by simp[e,s]
    rw[this,avE];exact(n (off+j) (by omega)).1
   refine⟨.agg e,?_,.agg _ e ?_ ?_ ?_⟩
   ·simp[Instr.loadAt,Instr.sureAddr,loadVar,m.run,dx q,loadCells,z]
   ·simp[r];omega
   ·intro a v h;have i:a<c:=by
     rcases auM a c with f|f
     ·exact f
     ·simp[avu (show e.size<=a by omega)]at h
    have:v=val (off+a):=by simp[e,i]at h;exact h.symm
    subst this;exact y _ (by omega)
   ·intro a d v x h;have i:a<c:=by
     rcases auM a c with f|f
     ·exact f
     ·simp[avu (show e.size<=a by omega)]at h
    rw[oY cs off c a i]at x;have:v=val (off+a):=by simp[e,i]at h;exact h.symm
    subst this;exact p _ _ x
 ·rename_i k;have m:cB P t:=⟨k⟩;have A:off<cs.length:=by
   rcases auM off cs.length with f|f
   ·exact f
   ·simp[auP f]at g
  refine⟨val off,?_,p off d g⟩;have B:w.cell? ⟨b,o+off,none⟩=some (val off):=(n off A).1;simp[Instr.loadAt,Instr.sureAddr,loadVar,m.run,B]
 ·cases g
theorem w9{t:Nat}{x:Operand}{cs:List D}{off:Nat}{d:D}(f:st.ev x=some (.m (.d (.bm cs off))))(h:tg X.P t cs off=some d):
  cQ X ⟨dst,.load t x,ty,pos,af,g⟩ st (dy (.m (.d d)) st):=by
 refine PN λe p r i=> ?_
 have a:=i.qc f;generalize j:e.eval x=c at a;cases a with
 |bm cs off b q val k l m=>
  obtain⟨c,n,o⟩:=yR h k l m;exact⟨c,by simp[execOp,j,n],.m (.d o)⟩
theorem yS{t:Nat}{x:Operand}{cs:List D}{off:Nat}{d:D}[ht:cB X.P t](a:st.ev x=some (.m (.d (.bm cs off))))(b:cs[off]?=some d):
  cQ X ⟨dst,.load t x,ty,pos,af,g⟩ st (dy (.m (.d d)) st):=
 w9 a (by simp[tg,ht.cell,b])
theorem FD{t n:Nat}{x:Operand}{cs:List D}[ht:jM X.P t n](a:st.ev x=some (.m (.d (.bm cs 0))))(b:cs.length=n):
  cQ X ⟨dst,.load t x,ty,pos,af,g⟩ st (dy (.m (.d (.agg cs))) st):=by
 refine w9 a ?_;subst b;simp only[tg,ht.agg,ht.size,awc];have:Nat.ble cs.length cs.length=true:=avJ (auK _);simp[this]
theorem yT{t n:Nat}{x:Operand}{cs ds:List D}{off:Nat}[ht:jM X.P t n](a:st.ev x=some (.m (.d (.bm cs off))))(b:Nat.ble (off+n) cs.length=true)(c:(cs.drop off).take n=ds):
  cQ X ⟨dst,.load t x,ty,pos,af,g⟩ st (dy (.m (.d (.agg ds))) st):=by
 refine w9 a ?_;simp[tg,ht.agg,ht.size,b,c]
class jT(P:Program)(s f:Nat)(off:outParam Nat):Prop where
 run: ∀(b o:Nat) (w:World),(Instr.fieldAt s (.pointer (some ⟨b,o,none⟩)) f).run P w= .ok (.pointer (some ⟨b,o+off,none⟩)) w
def vf(P:Program)(s f off:Nat):Bool:=
 match P.underlying s with
 |some (.struct fields)=>match fields[f]? with
  |some fd=>match gm P fd.type with
   |some n=>n !=0&&fd.offset==off
   |none=>false
  |none=>false
 |_=>false
theorem oz{P:Program}{s f off:Nat}(h:vf P s f off=true):jT P s f off:=by
 constructor;intro b e g;unfold vf at h;split at h
 ·rename_i k a;split at h
  ·rename_i j c;split at h
   ·rename_i i d;simp at h;simp[Instr.fieldAt,underlying,program,Sem.run,a,c,Instr.sureAddr,fieldPlace,dx d,h.1,mC,h.2]
   ·cases h
  ·cases h
 ·cases h
theorem FE{s f:Nat}{x:Operand}{cs:List D}{off o:Nat}(d:st.ev x=some (.m (.d (.bm cs off))))[hf:jT X.P s f o]:
  cQ X ⟨dst,.fieldAddr s x f,ty,pos,af,g⟩ st (dy (.m (.d (.bm cs (off+o)))) st):=by
 refine PN λc m p e=> ?_
 have a:=e.qc d;generalize h:c.eval x=n at a;cases a with
 |bm cs off b i val j k l=>
  refine⟨_,by simp only[execOp,h];simp[hf.run];rfl,.m (.d ?_)⟩;rw[avE];exact .bm cs (off+o) b i val j k l
theorem FF{s f:Nat}{x:Operand}{t off o:Nat}(c:st.ev x=some (.loc t off))[hf:jT X.P s f o]:
  cQ X ⟨dst,.fieldAddr s x f,ty,pos,af,g⟩ st (dy (.loc t (off+o)) st):=by
 refine PN λb h j d=> ?_
 have a:=d.ev c;generalize e:b.eval x=i at a;cases a with
 |loc t off=>exact⟨_,by simp only[execOp,e];simp[hf.run],.loc t (off+o)⟩
theorem yU{s f:Nat}{x:Operand}{i off o:Nat}(c:st.ev x=some (.m (.ref i off)))[hf:jT X.P s f o]:
  cQ X ⟨dst,.fieldAddr s x f,ty,pos,af,g⟩ st (dy (.m (.ref i (off+o))) st):=by
 refine PN λb k n d=> ?_
 have a:=d.ev c;generalize e:b.eval x=l at a;cases a with
 |m a=>cases a with
  |ref i off h j=>exact⟨_,by simp only[execOp,e];simp[hf.run],.m (.ref i (off+o) h j)⟩
theorem FG{s f:Nat}{x:Operand}{i aL off o:Nat}(d:st.ev x=some (.m (.eI i aL off)))[hf:jT X.P s f o]:
  cQ X ⟨dst,.fieldAddr s x f,ty,pos,af,g⟩ st (dy (.m (.eI i aL (off+o))) st):=by
 refine PN λc l p e=> ?_
 have a:=e.ev d;generalize h:c.eval x=n at a;cases a with
 |m a=>cases a with
  |eI i aL off b j k=>exact⟨_,by simp only[execOp,h];simp[hf.run],.m (.eI i aL (off+o) b j k)⟩
def vg:V->Bool
 | .m (.d (.bm _ _))=>true
 | .m (.ref _ _)=>true
 | .m (.eI _ _ _)=>true
 | .loc _ _=>true
 | .m (.d (.fn _ _))=>true
 | .m (.fn _ _)=>true
 |_=>false
theorem v5{x:Operand}{v:V}(f:st.ev x=some v)(b:vg v=true):
  cQ X ⟨dst,.nilCheck x,ty,pos,af,g⟩ st (dy v st):=by
 refine PN λe i l h=> ?_
 have a:=h.ev f;refine⟨e.eval x,?_,a⟩;generalize c:e.eval x=j at a;cases a with
 |loc k n=>simp[execOp,c]
 |tl _ _ _ _ _ _ _ _=>simp[vg]at b
 |m a=>cases a with
  |d a=>cases a<;>simp[vg]at b<;>simp[execOp,c]
  |_=>first|(simp[vg]at b;done)|simp[execOp,c]
def lB:D->Option Nat
 | .sl rows=>some rows.length
 | .ov=>some 0
 |_=>none
class aZ(P:Program)(t:Nat)(e:outParam Nat):Prop where
 u:P.underlying t=some (.slice e)
class CB(P:Program)(t:Nat):Prop where
 u:P.underlying t=some .string
theorem yW{t e:Nat}{x:Operand}{d:D}{n:Nat}(f:st.ev x=some (.m (.d d)))[ht:aZ X.P t e](b:lB d=some n):
  cQ X ⟨dst,.call ⟨.builtin .len,#[x],#[t]⟩,ty,pos,af,g⟩ st (dy (.m (.d (.int .i64 n))) st):=by
 refine PN λc j l h=> ?_
 have a:=h.qc f;generalize i:c.eval x=k at a;refine⟨.int .i64 n,?_,.m (.d (.int _ _))⟩;cases a<;>simp[lB]at b<;>subst b<;>simp[execOp,resolve,invoke,builtin,Builtin.len_,underlying,program,Sem.run,ht.u,i,goInt]
theorem yX{t e n:Nat}{x y:Operand}{rows:List (List D)}{r:List D}{k:IntKind}{i:Int}(p:st.ev x=some (.m (.d (.sl rows))))(q:st.ev y=some (.m (.d (.int k i))))
  [ht:aZ X.P t e] [s:bY X.P e n] (u:0<=i) (f:rows[i.toNat]?=some r) (v:r.length=n):
  cQ X ⟨dst,.indexAddr t x y,ty,pos,af,g⟩ st (dy (.m (.d (.bm r 0))) st):=by
 refine PN λl K M o=> ?_
 have c:=o.qc p;have w:=o.lA q;generalize z:l.eval x=L at c;have h:i.toNat<rows.length:=by
  rcases auM i.toNat rows.length with c|c
  ·exact c
  ·simp[auP c]at f
 cases c with
 |slnil l=>simp at h
 |sl rows b m Q j val N O P A B C E=>
  have F:r∈rows:=auQ f;have J:j=n:=by rw[<-A r F];exact v
  subst J;have G:i<(rows.length:Int):=by omega
  refine⟨.pointer (some ⟨b,m+i.toNat*j+0,none⟩),?_,.m (.d (.bm r 0 b (m+i.toNat*j) (λa=>val i.toNat a) ?_ ?_ ?_))⟩
  ·simp[execOp,z,w,Instr.indexAt,asIntOf,underlying,program,Sem.run,ht.u,dx s.size,u,G,mC]
  ·intro a H;have:=B i.toNat a h (by omega);simpa [avE] using this
  ·intro a H;exact C i.toNat a h (by omega)
  ·intro a d I;exact E i.toNat a r d f I
theorem Ih{x y:Operand}{b c:Nat}{s u:ByteArray}(d:st.ev x=some (.m (.d (.str s))))(e:st.ev y=some (.m (.d (.str u)))):
  cQ X ⟨dst,.binOp .eql b x y c,ty,pos,af,g⟩ st (dy (.m (.d (.bool (decide (s=u))))) st):=by
 refine PN λf h i a=> ?_
 exact⟨_,by simp only[execOp,a.w8 d,a.w8 e,eqGuard,binOp,Op.stringOp,tr];simp,.m (.d (.bool _))⟩
theorem Ii{x y:Operand}{b c:Nat}{s u:ByteArray}(d:st.ev x=some (.m (.d (.str s))))(e:st.ev y=some (.m (.d (.str u)))):
  cQ X ⟨dst,.binOp .neq b x y c,ty,pos,af,g⟩ st (dy (.m (.d (.bool (!decide (s=u))))) st):=by
 refine PN λf h i a=> ?_
 exact⟨_,by simp only[execOp,a.w8 d,a.w8 e,eqGuard,binOp,Op.stringOp,tr];simp,.m (.d (.bool _))⟩
theorem yY{x y:Operand}{b c:Nat}{s u:ByteArray}(d:st.ev x=some (.m (.d (.str s))))(e:st.ev y=some (.m (.d (.str u))))(i:s.size+u.size<=9223372036854775807):
  cQ X ⟨dst,.binOp .add b x y c,ty,pos,af,g⟩ st (dy (.m (.d (.str (s++u)))) st):=by
 refine PN λf h j a=> ?_
 have: ¬((s.size+u.size:Nat):Int)>IntKind.i64.max:=by
  have:IntKind.i64.max=9223372036854775807:=by decide
  omega
 exact⟨_,by simp only[execOp,a.w8 d,a.w8 e,eqGuard,binOp,Op.stringOp];simp only[auU this];simp,.m (.d (.str _))⟩
theorem DN{x:Operand}{i:Nat}{b:List M}{m:M}(h:st.ev x=some (.m (.dq b)))(c:b[i]?=some m):
  cQ X ⟨dst,.extract x i,ty,pos,af,g⟩ st (dy (.m m) st):=by
 refine PN λf o q j=> ?_
 have a:=j.ev h;generalize k:f.eval x=p at a;cases a with
 |m a=>cases a with
  |dq r e l n=>
   have d:i<e.size:=by
    rw[l];rcases auM i b.length with a|a;exact a;simp[auP a]at c
   exact⟨e[i],by simp[execOp,k,Instr.extract,d],.m (n i m _ c (by simp[d]))⟩
end ops
theorem TC.cond{X:bJ}{st:St}{post:Exit->St->Prop}{c:Operand}{x y:Code}{b:Bool}(g:st.ev c=some (.m (.d (.bool b))))
  (ht:b=true->TC X x st post) (hf:b=false->TC X y st post):TC X (.cond c x y) st post:=by
 rintro d h ⟨e,f,rfl,a⟩;refine wp_cond (a.uA g) ?_;cases b
 ·exact hf W d _ ⟨e,f,W,a⟩
 ·exact ht W d _ ⟨e,f,W,a⟩
def v7:List M->M
 | [m]=>m
 |ms=> .dq ms
def CT(P:Program)(f:Nat)(ms:List M)(H:Hp)(post:M->Hp->Prop):Prop:=
 ∀(σ:Sg) (Oo:Nat->Nat->Prop) (vs:Array Value),ln σ Oo->σ.H=H->vX σ ms vs->Calls P f vs σ.w λe w'=> ∃v r PW,e= .returned v/\PW.w=w'/\post r PW.H/\ln PW Oo/\RM PW r v/\dW σ PW/\bj σ PW
def PT(P:Program)(f:Nat)(ds:List D)(post:List D->Prop):Prop:=
 ∀(O:Nat->Nat->Prop) (w:World) (vs:Array Value),(∀b o,O b o->b<w.heap.size)->Hi O w ds vs->Calls P f vs w λe w'=> ∃v r,e= .returned v/\post r/\gG w w'/\RM ⟨w',O,λ_=>0,[]⟩ (v7 (r.map .d)) v
theorem CT.mono{P:Program}{f:Nat}{ms:List M}{H:Hp}{post g:M->Hp->Prop}(h:CT P f ms H post)(l: ∀a i,post a i->g a i):CT P f ms H g:=
 λj m n o p q=>(h j m n o p q).mono λe s ⟨v,a,r,k,b,c,d⟩=>⟨v,a,r,k,b,l _ _ c,d⟩
theorem RM.FH{σ τ:Sg}{ds:List D}{v:Value}(h:RM σ (v7 (ds.map .d)) v)(g: ∀b a v,dI σ.w b a=some v-> ¬σ.O b a->dI τ.w b a=some v/\ ¬τ.O b a):
  RM τ (v7 (ds.map .d)) v:=by
 match ds,h with
 | [],h=>cases h with
  |dq k l c h=>exact .dq _ _ c (by simp)
 | [s],h=>cases h with
  |d h=>exact .d (h.mono g)
 |n::o::p,h=>cases h with
  |dq k l c q=>
   refine .dq _ _ c λf m v i r=> ?_
   have e:=q f m v i r;have j:((n::o::p).map M.d)[f]?=some m:=i;simp only[au6,avv]at j;obtain⟨d,_,rfl⟩:=j;cases e with
   |d e=>exact .d (e.mono g)
theorem PI{P:Program}{f:Nat}{ds:List D}{post:List D->Prop}(h:CT P f (ds.map .d) [] λk _=> ∃d,k=v7 (d.map .d)/\post d):PT P f ds post:=by
 intro i o l r n
 let a:Sg:=⟨o,i,λ_=>0,[]⟩
 have C:ln a i:=⟨by simp[a],by simp[a],by simp[a],by simp[a],r⟩;have s:vX a (ds.map .d) l:=by
  refine⟨by simp[n.1],λp m v c j=> ?_⟩;simp only[au6,avv]at c;obtain⟨d,t,rfl⟩:=c;exact .d (n.2 p d v t j)
 refine(h a i l C W s).mono ?_;rintro e E ⟨v,k,F,u,w,⟨d,x,y⟩,z,A,G,g⟩;subst x;subst w;refine⟨v,d,u,y,⟨g.os,g.output,g.tape,g.size,λb c=>g.cy b c (by simp[a])⟩,?_⟩;refine A.FH ?_;exactλb q v c j=>⟨c,λB=>j ((z.own b q).2 (.inl B))⟩
def rM(i:Nat):List M->List (Nat×V)
 | []=>[]
 |m::r=>(i,.m m)::rM (i+1) r
theorem yZ: ∀(ms:List M) (i t:Nat) (v:V),get (rM i ms) t=some v->i<=t/\ ∃m,ms[t-i]?=some m/\v= .m m
 | [],i,t,v,a=>by simp[rM,get]at a
 |m::b,i,t,v,a=>by
  simp only[rM,bQ]at a;by_cases e:i=t
  ·subst e;simp at a;subst a;exact⟨auK _,m,by simp,rfl⟩
  ·rw[auU e]at a;obtain⟨g,c,d,f⟩:=yZ b (i+1) t v a;refine⟨by omega,c,?_,f⟩;have:t-i=(t-(i+1))+1:=by omega
   rw[this];simpa using d
def CC(P:Program)(st:St):ResultVar->Option M
 | .tmp t=>match get st.sl t with
  |some (.m m)=>some m
  |_=>none
 | .cell t T=>match get st.sl t with
  |some (.loc u off)=>match get st.bx u with
   |some cs=>ie P T cs off
   |none=>none
  |some (.m (.d (.bm cs off)))=>(tg P T cs off).map .d
  |some (.m (.ref i off))=>match st.H[i]? with
   |some (.box cs)=>ie P T cs off
   |_=>none
  |_=>none
def uB(P:Program)(st:St):List ResultVar->Option (List M)
 | []=>some []
 |r::rs=>match CC P st r,uB P st rs with
  |some m,some ms=>some (m::ms)
  |_,_=>none
def mD(P:Program)(fn:Func)(st:St):Option M:=(uB P st fn.results.toList).map v7
theorem vh: ∀{cs:List M} {ds:List D},kK cs=some ds->cs=ds.map .d
 | [],ds,a=>by simp[kK]at a;subst a;rfl
 |m::c,ds,a=>by
  cases m<;>simp only[kK]at a<;>try (cases a;done)
  rename_i d;cases b:kK c with
  |none=>simp[b]at a
  |some e=>simp[b]at a;subst a;simp[vh b]
theorem vX.kK{σ:Sg}{cs:List M}{ds:List D}{a:Array Value}(h:vX σ cs a)(c:kK cs=some ds):Hi σ.O σ.w ds a:=by
 have:=vh c;subst this;refine⟨by simpa using h.1,λb d v e f=> ?_⟩;have:=h.2 b (.d d) v (by simp[e]) f;cases this with
 |d h=>exact h
theorem lz.flat{σ:Sg}{cs:List M}{a:Array Value}(h:lz σ cs a): ∀(i:Nat) (v:Value),a[i]?=some v->flat v=true:=by
 intro i v b;have c:i<cs.length:=by
  rw[<-h.1];rcases auM i a.size with h|h;exact h;simp[avu h]at b
 exact(h.2 i cs[i] v (by simp[c]) b).2
theorem pH{P:Program}{σ:Sg}{t b off:Nat}{cs:List M}{d:Array Value}{T:Nat}{x:Nat×Nat}{m:M}(e:ie P t cs off=some m)
  (y:σ.w.heap[b]?=some (.cells d T x)) (E:cs.length<=d.size) (h: ∀(a:Nat) (m:M) (v:Value),cs[a]?=some m->d[a]?=some v->RM σ m v/\flat v=true):
  ∃u,(loadVar t ⟨b,off,none⟩).run P σ.w= .ok u σ.w/\RM σ m u:=by
 have p: ∀a,a<d.size->dI σ.w b a=some (d.getD a undef):=by
  intro a j;simp[dI,World.cell?,y,j]
 unfold ie at e;split at e
 ·rename_i c k q;cases l:Nat.ble (off+c) cs.length with
  |false=>simp[l]at e
  |true=>
   simp only[l,avx,av2]at e;subst e;have F:off+c<=cs.length:=avG l;have n:jM P t c:=⟨k,q⟩;have w:(d.extract off (off+c)).size=c:=by simp;omega
   have z:(loadCellsFrom ⟨b,off,none⟩ 0 c #[]).run P σ.w= .ok (d.extract off (off+c)) σ.w:=by
    refine kM c 0 _ (by omega) (by simp) ?_;intro o A;rw[w]at A;rw[p _ (by omega)];have r:o<min (off+c) d.size-off:=by omega
    have:off+o<d.size:=by omega
    simp[r,this]
   have f:lz σ ((cs.drop off).take c) (d.extract off (off+c)):=by
    refine⟨by rw[w];simp;omega,λa m v s g=> ?_⟩;have j:a<c:=by
     rcases auM a c with h|h
     ·exact h
     ·rw[avu (by omega)]at g;cases g
    rw[oY cs off c a j]at s;refine h _ _ _ s ?_;rw[awe]at g;split at g
    ·exact g
    ·cases g
   refine⟨.agg (d.extract off (off+c)),by simp[loadVar,n.run,dx q,loadCells,z],?_⟩;unfold pack;split
   ·rename_i B C;have G:=f;have:=vX.kK ⟨f.1,λa m v i b=>(f.2 a m v i b).1⟩ C;exact .d (.agg B _ this.1 (f.flat) this.2)
   ·exact .agg _ _ f.1 f.flat (λa m v i b=>(f.2 a m v i b).1)
 ·rename_i k;have n:cB P t:=⟨k⟩;have r:off<cs.length:=by
   rcases auM off cs.length with h|h
   ·exact h
   ·simp[auP h]at e
  have D:σ.w.cell? ⟨b,off,none⟩=some (d.getD off undef):=p off (by omega);refine⟨d.getD off undef,by simp[loadVar,n.run,D],(h off m _ e (by simp[show off<d.size by omega])).1⟩
 ·cases e
def rN(tmps:Array Value):ResultVar->Sem Value
 | .tmp t=>pure (tmps.getD t undef)
 | .cell a t=>do loadVar t (<-asAddr (tmps.getD a undef))
theorem DO{X:bJ}{σ:Sg}{Pw:Nat->Nat}{st:St}{a:Act}(hi:cE X σ Pw st a){r:ResultVar}{m:M}(h:CC X.P st r=some m):
  ∃u,(rN a.tmps r).run X.P σ.w= .ok u σ.w/\RM σ m u:=by
 unfold CC at h;split at h
 ·rename_i k;split at h
  ·rename_i E e;injection h with h;subst h
   obtain⟨u,f,c⟩:=hi.slot k _ e;cases c with
   |m c=>exact⟨u,by simp[rN,f],c⟩
  ·cases h
 ·rename_i k t;split at h
  ·rename_i u j e;split at h
   ·rename_i g w;obtain⟨q,f,c⟩:=hi.slot k _ e;cases c with
    |loc u j=>
     obtain⟨x,y,o,l⟩:=hi.box u g w;obtain⟨v,i,n⟩:=pH h o (by rw[l.1];exact auK _) l.2;exact⟨v,by simp[rN,f,asAddr,i],n⟩
   ·cases h
  ·rename_i g j e;obtain⟨q,f,c⟩:=hi.slot k _ e;cases c with
   |m c=>cases c with
    |d c=>cases c with
     |bm g j b D val z A B=>
      cases p:tg X.P t g j with
      |none=>simp[p]at h
      |some d=>
       simp[p]at h;subst h;obtain⟨v,i,n⟩:=yR p z A B;refine⟨v,?_,.d n⟩;simp only[Instr.loadAt,Instr.sureAddr]at i;simpa [rN,f,asAddr] using i
  ·rename_i s j e;split at h
   ·rename_i g C;obtain⟨q,f,c⟩:=hi.slot k _ e;cases c with
    |m c=>cases c with
     |ref s j G F=>
      obtain⟨x,y,o,l⟩:=hi.hinv.obj s (.box g) (by rw[hi.hH];exact C);obtain⟨v,i,n⟩:=pH h o (by rw[l.1];exact auK _) l.2;exact⟨v,by simp[rN,f,asAddr,i],n⟩
   ·cases h
  ·cases h
theorem xS{X:bJ}{σ:Sg}{Pw:Nat->Nat}{st:St}{a:Act}(hi:cE X σ Pw st a): ∀{rs:List ResultVar} {ms:List M},uB X.P st rs=some ms->
  ∃us:List Value,(rs.mapM (rN a.tmps)).run X.P σ.w= .ok us σ.w/\vX σ ms us.toArray
 | [],ms,b=>by simp[uB]at b;subst b;exact⟨[],by simp,rfl,by simp⟩
 |o::rs,ms,b=>by
  simp only[uB]at b;split at b
  ·rename_i m p h i;injection b with b;subst b
   obtain⟨g,j,k⟩:=DO hi h;obtain⟨us,l,f⟩:=xS hi i;refine⟨g::us,?_,?_⟩
   ·rw[axb];simp only[Sem.run_bind,Sem.run_pure];rw[j];simp only[Result.andThen_ok];rw[l];simp
   ·refine⟨by simpa using f.1,λe n v c d=> ?_⟩;cases e with
    |zero=>simp at c d;subst c;subst d;exact k
    |succ e=>simp at c d;exact f.2 e n v c (by simpa using d)
  ·cases b
theorem Ij{X:bJ}{σ:Sg}{Pw:Nat->Nat}{st:St}{a:Act}(hi:cE X σ Pw st a){fn:Func}{m:M}(h:mD X.P fn st=some m):
  ∃u,(results fn a.tmps).run X.P σ.w= .ok u σ.w/\RM σ m u:=by
 unfold mD at h;cases d:uB X.P st fn.results.toList with
 |none=>simp[d]at h
 |some e=>
  simp[d]at h;subst h;obtain⟨c,g,b⟩:=xS hi d;have k:c.length=e.length:=by simpa using b.1
  have i:(results fn a.tmps).run X.P σ.w= .ok (if h:c.toArray.size=1 then c.toArray[0]else .tuple c.toArray) σ.w:=by
   have j:results fn a.tmps=(do let f<-fn.results.mapM (rN a.tmps);pure (if h:f.size=1 then f[0]else .tuple f)):=by
    unfold results
    congr 1
   rw[j,axd];simp only[Sem.run_bind,Functor.map];simp only[Sem.run_bind'];rw[g];simp
  rw[i]
  match e,c,b,k with
  | [],[],b,_=>exact⟨_,W,by rw[axz (by simp)];exact .dq [] #[] W (by simp)⟩
  | [m],[u],b,_=>exact⟨_,W,by simp[v7];exact b.2 0 m u (by simp) (by simp)⟩
  |l::n::e,o::p::c,b,_=>
   refine⟨_,W,?_⟩;rw[axz (by simp)];exact .dq _ _ b.1 b.2
def ts(P:Program)(fn:Func)(post:M->Hp->Prop):Exit->St->Prop
 | .normal,s=> ∃m,mD P fn s=some m/\post m s.H
 | .ret,s=> ∃m,mD P fn s=some m/\post m s.H
 |_,_=>False
theorem CT.v8{P:Program}{f:Nat}{fn:Func}{c:Code}{ms:List M}{H:Hp}{post:M->Hp->Prop}(hf:P.funcs[f]?=some fn)(Q:fn.body=some c)
  {n:Nat} (R:fn.ntmps=n) (I:Nat.ble ms.length n=true) (h: ∀(S:Sg) (T:Nat->Nat->Prop),TC ⟨P,n,S,T,[]⟩ c ⟨rM 0 ms,[],H⟩ (ts P fn post)):CT P f ms H post:=by
 subst R;replace I:=avG I;intro o p y x U A;refine calls_of_wp hf Q ?_
 let z:bJ:=⟨P,fn.ntmps,o,p,[]⟩
 have X5: ∀b a,o8 p (λ_=>0) [] b a↔p b a:=by intro b a;simp[o8,get]
 have V:cE z o (λ_=>0) ⟨rM 0 ms,[],H⟩ {tmps:=y++Array.replicate (fn.ntmps-y.size) undef,defers:=[]} :=by
  refine⟨U,W,?_,?_,by simp[get],by simp[get],by simp[get],by simp[get],?_,dW.refl _,bj.refl _⟩
  ·have:=A.1;simp[z];omega
  ·intro t v X;obtain⟨_,m,q,rfl⟩:=yZ ms 0 t v X;simp at q;have J:t<y.size:=by
    rw[A.1];rcases auM t ms.length with h|h;exact h;simp[auP h]at q
   exact⟨y[t],by simp[axt,J],.m (A.2 t m _ q (by simp[J]))⟩
  ·exact⟨x.obj,x.inj,λb a=>by rw[x.own];simp[o8,get,z],λd j B q a u=>x.sep d j B q a (by simpa [o8,get] using u),λb a u=>x.nt b a (by simpa [o8,get] using u)⟩
 have ac:=h o p _ o.w ⟨o,λ_=>0,rfl,V⟩;refine wp_mono ac ?_;rintro e K w' ⟨C,D,k,QY,rfl,g⟩;have N:(∃m,mD P fn C=some m/\post m C.H)->K.defers= []/\ ∃v,(results fn K.tmps).run P k.w= .ok v k.w/\ ∃L F s,Ending.returned v= .returned L/\s.w=k.w/\post F s.H/\ln s p/\RM s F L/\dW o s/\bj o s:=by
  rintro⟨m,B,q⟩;obtain⟨G,u,Y⟩:=Ij g B;have E:dW k {k with O:= λb a=>p b a\/ ∃(d:Nat) (j:Ob),k.H[d]?=some j/\k.l d=b/\j.kE a} :=by
   refine⟨λb a v i w=>⟨i,λl=>w ?_⟩,λd r i=>⟨⟨r,i⟩,rfl⟩,λd r i=>⟨⟨r,i⟩,rfl⟩,λd r i=>⟨⟨r,i⟩,rfl⟩,λd i=>i,λd ah ec Z r i=> .inr ⟨ah,Z,r,i,auK _,λ_=>⟨rfl,rfl,λPB co w=>⟨PB,w,rfl⟩⟩⟩,λ_ h=>⟨_,h⟩⟩;rw[g.hinv.own];rcases l with l|l
   ·exact .inl (.inl l)
   ·exact .inr l
  refine⟨g.defers,G,u,G,m,{k with O:= λb a=>p b a\/ ∃(d:Nat) (j:Ob),k.H[d]?=some j/\k.l d=b/\j.kE a},rfl,rfl,by rw[show k.H=C.H from g.hH];exact q,?_,?_,?_,?_⟩
  ·exact⟨λd j i=>(g.hinv.obj d j i).cK E (λd6 hx=>hx),g.hinv.inj,λb a=>avU,λd j i w a l=>g.hinv.sep d j i w a (.inl l),λb a l=>g.hinv.nt b a (.inl l)⟩
  ·exact Y.mono E
  ·exact g.mono.trans E
  ·exact⟨g.cy.os,g.cy.output,g.cy.tape,g.cy.size,g.cy.cy,g.cy.loc⟩
 cases e with
 |normal=>exact N D
 |ret=>exact N D
 |_=>exact D.elim
def St.gD(st:St):List Operand->Option (List M)
 | []=>some []
 |x::r=>match st.ev x,St.gD st r with
  |some (.m m),some ms=>some (m::ms)
  |_,_=>none
def St.iz(st:St):List Operand->Option (List D)
 | []=>some []
 |x::r=>match st.ev x,St.iz st r with
  |some (.m (.d d)),some ds=>some (d::ds)
  |_,_=>none
section ops
variable{X:bJ}{st:St}{dst:Option Nat}{ty:Nat}{pos:String}{af:Array Edge}{g:Option (Nat×Bool)}
theorem cE.gD{σ:Sg}{Pw:Nat->Nat}{a:Act}(hi:cE X σ Pw st a): ∀{xs:List Operand} {ms:List M},st.gD xs=some ms->vX σ ms (xs.map a.eval).toArray
 | [],ms,b=>by simp[St.gD]at b;subst b;exact⟨W,by simp⟩
 |k::l,ms,b=>by
  simp only[St.gD]at b;split at b
  ·rename_i m n g h;injection b with b;subst b
   have f:=hi.gD h;have i:=hi.ev g;refine⟨by simpa using f.1,λe j v c d=> ?_⟩;cases e with
   |zero=>simp at c d;subst c;subst d;cases i with|m b=>exact b
   |succ e=>simp at c d;exact f.2 e j v c (by simpa using d)
  ·cases b
theorem cE.iz{σ:Sg}{Pw:Nat->Nat}{a:Act}(hi:cE X σ Pw st a): ∀{xs:List Operand} {ds:List D},st.iz xs=some ds->Hi σ.O σ.w ds (xs.map a.eval).toArray
 | [],g,b=>by simp[St.iz]at b;subst b;exact⟨W,by simp⟩
 |l::n,g,b=>by
  simp only[St.iz]at b;split at b
  ·rename_i m o h i;injection b with b;subst b
   have f:=hi.iz i;have j:=hi.qc h;refine⟨by simpa using f.1,λe k v c d=> ?_⟩;cases e with
   |zero=>simp at c d;subst c;subst d;exact j
   |succ e=>simp at c d;exact f.2 e k v c (by simpa using d)
  ·cases b
class bz(P:Program)(f:Nat):Prop where
 run: ∀(args:Array Value) (w:World),(callFunc f args).run P w= .ok (.enter f args) w
def CD(st:St)(post:List D->Prop):V->St->Prop:= λv s=> ∃r,v= .m (v7 (r.map .d))/\post r/\s=st
theorem cQ.JG{o:Oper}{f:Nat}{ds:List D}{post:List D->Prop}(h:PT X.P f ds post)
  (m: ∀c a d,cE X a d st c-> ∃g,(execOp c.eval o).run X.P a.w= .ok (.enter f g) a.w/\Hi a.O a.w ds g):cQ X o st (CD st post):=by
 intro c a d i;obtain⟨g,j,k⟩:=m c a d i;refine dT.enter j ((h a.O a.w g i.hinv.DK k).mono ?_);rintro e n ⟨v,l,rfl,p,q,r⟩;refine⟨v,W,_,st,{a with w:=n},d,⟨l,rfl,p,rfl⟩,rfl,i.ext q,.m ?_⟩;exact r.FH λb o v j k=>⟨j,k⟩
theorem JH{f:Nat}{args:List Operand}{Sr:Array Nat}{ds:List D}{post:List D->Prop}[hf:bz X.P f](b:st.iz args=some ds)(h:PT X.P f ds post):
  cQ X ⟨dst,.call ⟨.value (.func f),args.toArray,Sr⟩,ty,pos,af,g⟩ st (CD st post):=by
 refine cQ.JG h λa d e c=>⟨(args.map a.eval).toArray,?_,c.iz b⟩
 simp only[execOp,resolve,Act.eval,Deferred.ofValue,invoke];simp[hf.run]
theorem Bq{f:Nat}{args:List Operand}{Sr:Array Nat}{ds:List D}{r:D}[hf:bz X.P f](p:st.iz args=some ds)(h:PT X.P f ds (·= [r])):
  cQ X ⟨dst,.call ⟨.value (.func f),args.toArray,Sr⟩,ty,pos,af,g⟩ st (dy (.m (.d r)) st):=by
 intro j k q s;have:=JH (dst:=dst) (ty:=ty) (pos:=pos) (af:=af) (g:=g) (Sr:=Sr) p h j k q s;unfold dT at this⊢;generalize (execOp j.eval _).run X.P k.w=n at*;have m: ∀v a,CD st (·= [r]) v a->dy (.m (.d r)) st v a:=by
  rintro v a ⟨w,rfl,rfl,rfl⟩;exact⟨W,W⟩
 cases n with
 |ok l t=>
  cases l<;>simp only at this⊢ <;>first
   |(obtain⟨v,a,b,c,d,i⟩:=this;exact⟨v,a,b,c,m _ _ d,i⟩)
   |exact this.mono λe x ⟨o,u,v,a,b,c,d,i⟩=>⟨o,u,v,a,b,c,m _ _ d,i⟩
   |exact this
 |halt l t=>exact this
theorem Ik{x:Operand}{f:Nat}{j:List D}{args:List Operand}{Sr:Array Nat}{ds:List D}{post:List D->Prop}(m:st.ev x=some (.m (.d (.fn f j))))[hf:bz X.P f](n:st.iz args=some ds)
  (h:PT X.P f (ds++j) post):cQ X ⟨dst,.call ⟨.value x,args.toArray,Sr⟩,ty,pos,af,g⟩ st (CD st post):=by
 refine cQ.JG h λc w z k=> ?_
 have l:=k.qc m;have e:=k.iz n;generalize o:c.eval x=y at l;cases l with
 |fn f A p q r=>
  refine⟨(args.map c.eval).toArray++p,?_,?_⟩
  ·simp only[execOp,resolve,o,Deferred.ofValue,invoke];simp[hf.run]
  ·refine⟨by have:=e.1;simp at this;simp[this,q],λi d v a b=> ?_⟩;have s:(args.map c.eval).toArray.size=ds.length:=e.1;rcases auM i ds.length with t|u
   ·rw[auL t]at a;rw[awf (by omega)]at b;exact e.2 i d v a b
   ·rw[auR u]at a;rw[awE (by omega),s]at b;exact r _ d v a b
theorem CE{f:Nat}{a:List Operand}{ds:List D}(d:st.iz a=some ds):
  cQ X ⟨dst,.makeFunc (.func f) #[] a.toArray,ty,pos,af,g⟩ st (dy (.m (.d (.fn f ds))) st):=by
 refine PN λc h i e=> ?_
 have b:=e.iz d;exact⟨.func (.func f) #[] (a.map c.eval).toArray,by simp[execOp,Instr.makeFunc],.m (.d (.fn f ds _ b.1 b.2))⟩
theorem rO{σ:Sg}{a:Nat->Nat->Prop}(h:ln σ a){b:Nat}(c:a b 0): ∀(i:Nat) ob,σ.H[i]?=some ob->ob.live->σ.l i≠b:=by
 intro i ob d e f;exact h.sep i ob d e 0 (by rw[f];exact c)
theorem cQ.JJ{o:Oper}{f:Nat}{ms:List M}{post:M->Hp->Prop}(h:CT X.P f ms st.H post)
  (t: ∀j c g,cE X c g st j-> ∃k,(execOp j.eval o).run X.P c.w= .ok (.enter f k) c.w/\vX c ms k):
  cQ X o st (λv s=> ∃r H',v= .m r/\post r H'/\s=⟨st.sl,st.bx,H'⟩):=by
 intro j c g a;obtain⟨k,u,w⟩:=t j c g a;refine dT.enter u ((h c _ k a.hinv a.hH w).mono ?_);rintro e G ⟨v,r,l,rfl,rfl,x,y,z,m,p⟩;refine⟨v,W,.m r,⟨st.sl,st.bx,l.H⟩,l,g,⟨r,l.H,W,x,W⟩,W,?_,.m z⟩;refine⟨W,a.defers,a.size,λd v i=>let⟨q,A,B⟩:=a.slot d v i;⟨q,A,B.mono m⟩,?_,a.sP,a.th,a.tj,y,a.mono.trans m,a.cy.trans p⟩;intro d n i;have C:=(a.box d n i).lt trivial;have D:=rO a.hinv (b:=g d) (.inr ⟨d,n,i,rfl⟩);refine(a.box d n i).cK m λF E=> ?_
 rw[p.cy _ C D];exact E
theorem w_{f:Nat}{args:List Operand}{Sr:Array Nat}{ms:List M}{post:M->Hp->Prop}[hf:bz X.P f](b:st.gD args=some ms)(h:CT X.P f ms st.H post):
  cQ X ⟨dst,.call ⟨.value (.func f),args.toArray,Sr⟩,ty,pos,af,g⟩ st (λv s=> ∃r H',v= .m r/\post r H'/\s=⟨st.sl,st.bx,H'⟩):=by
 refine cQ.JJ h λa d e c=>⟨(args.map a.eval).toArray,?_,c.gD b⟩
 simp only[execOp,resolve,Act.eval,Deferred.ofValue,invoke];simp[hf.run]
end ops
def db(w:World)(b:Nat)(x:Obj):World:= {w with heap:=w.heap.setIfInBounds b x}
theorem gI{w:World}{b:Nat}{x:Obj}(a:b<w.heap.size):(db w b x).heap[b]?=some x:=by simp[db,a]
theorem jN{w:World}{b c:Nat}{x:Obj}(h:c≠b):(db w b x).heap[c]?=w.heap[c]?:=by
 simp[db,avO (avH h)]
theorem kZ{w:World}{b:Nat}{x:Obj} :(db w b x).heap.size=w.heap.size:=by simp[db]
theorem y7{w:World}{b:Nat}{x y:Obj} :db (db w b x) b y=db w b y:=by
 unfold db
 congr 1
 apply awR;intro c;by_cases a:c=b
 ·subst a;simp[Array.getElem?_setIfInBounds]
 ·simp[avO (avH a)]
theorem CF{w:World}{b:Nat}{x:Obj}(h:w.heap[b]?=some x):db w b x=w:=by
 unfold db;have:w.heap.setIfInBounds b x=w.heap:=by
  apply awR;intro a;by_cases e:a=b
  ·subst e;rw[awU];split<;>simp_all
  ·simp[avO (avH e)]
 rw[this]
theorem DP{w:World}{b o:Nat}{v:Value}{a:Array Value}{T:Nat}(h:w.heap[b]?=some (.cells a T (0,0))):
  w.setCell ⟨b,o,none⟩ v=db w b (.cells (a.setIfInBounds o v) T (0,0)):=by
 unfold World.setCell db
 congr 1
 apply awR;intro c;have d:=gH h;by_cases e:c=b
 ·subst e;simp only[awZ,awr,h,awC,awU,d];simp
 ·simp[avO (avH e),awZ,avH e]
def eM(PB:Array Value)(off:Nat):List Value->Array Value
 | []=>PB
 |v::r=>eM (PB.setIfInBounds off v) (off+1) r
theorem gJ: ∀(c:List Value) (a:Array Value) (off:Nat),(eM a off c).size=a.size
 | [],a,off=>rfl
 |v::b,a,off=>by simp[eM,gJ b]
theorem n_: ∀(c:List Value) (a:Array Value) (off k:Nat),off+c.length<=a.size->
  (eM a off c)[k]?=if off<=k/\k<off+c.length then c[k-off]? else a[k]?
 | [],a,off,k,f=>by simp[eM];intro i g;omega
 |v::b,a,off,k,f=>by
  simp at f;rw[eM,n_ b _ (off+1) k (by simp;omega)];by_cases e:k=off
  ·subst e;simp;have g:k<a.size:=by omega
   simp[g];intro d;omega
  ·by_cases h:off+1<=k/\k<off+1+b.length
   ·have d:off<=k/\k<off+(v::b).length:=by simp;omega
    rw[au2 h,au2 d];have:k-off=(k-(off+1))+1:=by omega
    rw[this];simp
   ·have d: ¬(off<=k/\k<off+(v::b).length):=by simp;omega
    rw[auU h,auU d];simp[avO (avH e)]
theorem FI{P:Program}{w:World}{b o:Nat}{v:Value}{a:Array Value}{T:Nat}(h:w.heap[b]?=some (.cells a T (0,0)))(c:o<a.size)(hf:flat v=true):
  (store ⟨b,o,none⟩ v).run P w= .ok () (db w b (.cells (a.setIfInBounds o v) T (0,0))):=by
 have d:w.cell? ⟨b,o,none⟩=some a[o]:=by simp[World.cell?,h,c]
 have e:w.frozen? ⟨b,o,none⟩=false:=by simp[World.frozen?,h]
 unfold store;cases v<;>simp[flat]at hf<;>simp[Sem.run,d,e,DP h]
theorem oP{P:Program}{b off T:Nat} : ∀(d:List Value) (i:Nat) (w:World) (a:Array Value),w.heap[b]?=some (.cells a T (0,0))->off+i+d.length<=a.size->(∀v∈d,flat v=true)->
  (storeCells ⟨b,off,none⟩ d i).run P w= .ok () (db w b (.cells (eM a (off+i) d) T (0,0)))
 | [],i,w,a,c,_,_=>by simp[storeCells,eM,CF c]
 |v::f,i,w,a,c,g,e=>by
  simp at g;have h:=FI (P:=P) (o:=off+i) c (by omega) (e v (by simp));rw[storeCells];simp only[Sem.run_bind,mC];rw[h];simp only[Result.andThen_ok];have j:(db w b (.cells (a.setIfInBounds (off+i) v) T (0,0))).heap[b]?=some (.cells (a.setIfInBounds (off+i) v) T (0,0)):=gI (gH c);rw[oP f (i+1) _ _ j (by simp;omega) (λv k=>e v (by simp[k]))];rw[y7];rfl
theorem qG{P:Program}{w:World}{b off T t:Nat}{c:Array Value}{v:Value}(h:w.heap[b]?=some (.cells c T (0,0)))(e:gm P t=some v.cells.size)(f:off+v.cells.size<=c.size)
  (hf: ∀(d:Nat) a,v.cells[d]?=some a->flat a=true):
  (storeVar t ⟨b,off,none⟩ v).run P w= .ok () (db w b (.cells (eM c off v.cells.toList) T (0,0))):=by
 unfold storeVar;simp only[Sem.run_bind,dx e,Result.andThen_ok];simp;have:=oP (P:=P) (off:=off) v.cells.toList 0 w c h (by simpa using f) (by
  intro a g;obtain⟨d,i⟩:=ave.1 g;exact hf d a (by simpa using i))
 simpa using this
theorem lz.write{σ:Sg}{cs c PV:List M}{i:Array Value}{j:Array Value}{off:Nat}(h:lz σ cs i)(k:lz σ c j)(f:ep cs off c=some PV):
  lz σ PV (eM i off j.toList)/\off+c.length<=cs.length/\PV.length=cs.length:=by
 unfold ep at f;cases g:Nat.ble (off+c.length) cs.length with
 |false=>simp[g]at f
 |true=>
  simp only[g,avx,av2]at f;subst f;have o:=avG g;have p:=h.1;have n:=k.1;refine⟨⟨?_,?_⟩,o,?_⟩
  ·rw[gJ,h.1];simp;omega
  ·intro b m v a d;rw[n_ _ _ _ _ (by simp;omega)]at d;simp only[Array.length_toList,n]at d;by_cases e:off<=b/\b<off+c.length
   ·rw[au2 e]at d;rw[avh,auR (by simp;omega),auL (by simp;omega)]at a;have:b-(List.take off cs).length=b-off:=by simp;omega
    rw[this]at a;exact k.2 _ _ _ a (by simpa using d)
   ·rw[auU e]at d;refine h.2 b m v ?_ d;rw[avh]at a;rcases auM b off with l|l
    ·rw[auL (by simp;omega),awK l]at a;exact a
    ·rw[auR (by simp;omega),auR (by simp;omega),awA]at a;have:off+c.length+(b-(List.take off cs).length-c.length)=b:=by simp;omega
     rw[this]at a;exact a
  ·simp;omega
theorem dW.db{σ:Sg}{b T:Nat}{l j:Array Value}(h:σ.w.heap[b]?=some (.cells l T (0,0)))(o:j.size=l.size)(p: ∀g,¬σ.O b g->j[g]?=l[g]?):
  dW σ {σ with w:=db σ.w b (.cells j T (0,0))} :=by
 have m:=gH h;refine⟨?_,λi d a=>⟨⟨d,a⟩,rfl⟩,λi d a=>⟨⟨d,a⟩,rfl⟩,λi d a=>⟨⟨d,a⟩,rfl⟩,λi a=>a,?_,λ_ h=>⟨_,h⟩⟩
 ·intro c g v k n;refine⟨?_,n⟩;by_cases e:c=b
  ·subst e;simp only[dI,World.cell?,h]at k;simp only[dI,World.cell?,gI m];simp at k⊢;rw[p g n];exact k
  ·rw[nZ (jN e)];exact k
 ·intro i u x q d a;refine .inr ⟨u,q,d,a,auK _,λ_=>⟨rfl,rfl,λr y f=> ?_⟩⟩;by_cases e:σ.l i=b
  ·rw[e]at f⊢;rw[h]at f;injection f with f;injection f with s t
   subst s;subst t;exact⟨j,gI m,o⟩
  ·exact⟨r,by rw[jN e];exact f,W⟩
section ops
variable{X:bJ}{st:St}{dst:Option Nat}{ty:Nat}{pos:String}{af:Array Edge}{g:Option (Nat×Bool)}
theorem Br{T:Nat}{x:Operand}{t off:Nat}{cs:List M}{m:M}(e:st.ev x=some (.loc t off))(f:get st.bx t=some cs)(h:ie X.P T cs off=some m):
  cQ X ⟨dst,.load T x,ty,pos,af,g⟩ st (dy (.m m) st):=by
 refine PN λd n p b=> ?_
 have a:=b.ev e;generalize i:d.eval x=o at a;cases a with
 |loc t off=>
  obtain⟨q,r,j,c⟩:=b.box t cs f;obtain⟨v,k,l⟩:=pH h j (by rw[c.1];exact auK _) c.2;exact⟨v,by simp[execOp,i,Instr.loadAt,Instr.sureAddr,k],.m l⟩
theorem vi{T:Nat}{x:Operand}{t off:Nat}{cs:List M}{m:M}[ht:cB X.P T](a:st.ev x=some (.loc t off))(b:get st.bx t=some cs)(c:cs[off]?=some m):
  cQ X ⟨dst,.load T x,ty,pos,af,g⟩ st (dy (.m m) st):=
 Br a b (by simp[ie,ht.cell,c])
theorem vj{T n:Nat}{x:Operand}{t off:Nat}{cs:List M}{ds:List D}[ht:jM X.P T n](a:st.ev x=some (.loc t off))(b:get st.bx t=some cs)(c:Nat.ble (off+n) cs.length=true)
  (d:kK ((cs.drop off).take n)=some ds):cQ X ⟨dst,.load T x,ty,pos,af,g⟩ st (dy (.m (.d (.agg ds))) st):=
 Br a b (by simp[ie,ht.agg,ht.size,c,pack,d])
theorem bT{a:Type}{l:List (Nat×a)}{k t:Nat}{v w:a}(h:get ((k,v)::l) t=some w):(t=k/\w=v)\/(t≠k/\get l t=some w):=by
 rw[bQ]at h;by_cases e:k=t
 ·rw[au2 e]at h;injection h with h;exact .inl ⟨e.symm,h.symm⟩
 ·rw[auU e]at h;exact .inr ⟨λh=>e h.symm,h⟩
theorem cE.LQ{σ:Sg}{Pw:Nat->Nat}{a:Act}{t T:Nat}{cs PV:List M}{x l:Array Value}(hi:cE X σ Pw st a)(m:get st.bx t=some cs)(h:σ.w.heap[Pw t]?=some (.cells x T (0,0)))
  (B:l.size=x.size) (C:lz {σ with w:=db σ.w (Pw t) (.cells l T (0,0))} PV l):
  cE X {σ with w:=db σ.w (Pw t) (.cells l T (0,0))} Pw ⟨st.sl,(t,PV)::st.bx,st.H⟩ a:=by
 have D: ∀g,σ.O (Pw t) g:= λg=>(hi.hinv.own _ _).2 (.inl (.inr ⟨t,cs,m,rfl⟩))
 have p:dW σ {σ with w:=db σ.w (Pw t) (.cells l T (0,0))} :=dW.db h B (λg E=>(E (D g)).elim);have r: ∀b g,o8 X.kL Pw ((t,PV)::st.bx) b g↔o8 X.kL Pw st.bx b g:=by
  intro b g;constructor
  ·rintro(d|⟨c,f,d,k⟩)
   ·exact .inl d
   ·rcases bT d with⟨rfl,rfl⟩|⟨j,i⟩
    ·exact .inr ⟨c,cs,m,k⟩
    ·exact .inr ⟨c,f,i,k⟩
  ·rintro(d|⟨c,f,d,k⟩)
   ·exact .inl d
   ·by_cases e:t=c
    ·subst e;exact .inr ⟨t,PV,by simp[bQ],k⟩
    ·exact .inr ⟨c,f,by simp[bQ,e,d],k⟩
 have F:=rO hi.hinv (b:=Pw t) (.inr ⟨t,cs,m,rfl⟩);have q: ∀c f,get ((t,PV)::st.bx) c=some f-> ∃G,get st.bx c=some G:=by
  intro c f d;rcases bT d with⟨rfl,rfl⟩|⟨j,i⟩
  ·exact⟨cs,m⟩
  ·exact⟨f,i⟩
 refine⟨hi.hH,hi.defers,hi.size,λc v j=>let⟨z,i,s⟩:=hi.slot c v j;⟨z,i,s.mono p⟩,?_,?_,?_,?_,?_,hi.mono.trans p,?_⟩
 ·intro c f d;rcases bT d with⟨rfl,rfl⟩|⟨j,i⟩
  ·exact⟨l,T,gI (gH h),C⟩
  ·refine(hi.box c f i).cK p λA u=> ?_
   rw[jN (λe=>j (hi.sP c t f cs i m e))];exact u
 ·intro c v f H d k j;obtain⟨_,i⟩:=q c f d;obtain⟨_,s⟩:=q v H k;exact hi.sP c v _ _ i s j
 ·intro c f d;obtain⟨_,i⟩:=q c f d;exact hi.th c _ i
 ·intro c f d;obtain⟨_,i⟩:=q c f d;exact hi.tj c _ i
 ·refine⟨?_,hi.hinv.inj,λb g=>by rw[r];exact hi.hinv.own b g,λo n d k g j=>hi.hinv.sep o n d k g ((r _ _).1 j),λb g j=>by show b<(db _ _ _).heap.size;rw[kZ];exact hi.hinv.nt b g ((r _ _).1 j)⟩;intro o n d;by_cases y:n.live
  ·refine(hi.hinv.obj o n d).cK p λA u=> ?_
   rw[jN (F o n d y)];exact u
  ·cases n<;>first|trivial|exact(y trivial).elim
 ·refine⟨hi.cy.os,hi.cy.output,hi.cy.tape,by show _<=(db _ _ _).heap.size;rw[kZ];exact hi.cy.size,?_,hi.cy.loc⟩;intro b I J;rw[jN ?_]
  ·exact hi.cy.cy b I J
  ·intro e;have:=hi.tj t cs m;omega
theorem y8{T n:Nat}{x y:Operand}{t off:Nat}{cs PV:List M}{m:M}(q:st.ev x=some (.loc t off))(r:st.ev y=some (.m m))(h:get st.bx t=some cs)
  [s:bY X.P T n] (u:(cellsOf m).length=n) (v:m.i_=true) (z:ep cs off (cellsOf m)=some PV):
  cQ X ⟨dst,.store T x y,ty,pos,af,g⟩ st (dy (.m .undef) ⟨st.sl,(t,PV)::st.bx,st.H⟩):=by
 intro c a e b;have k:=b.ev q;have i:=b.ev r;generalize A:c.eval x=I at k;cases k with
 |loc t off=>
  cases i with
  |m i=>
   obtain⟨l,o,j,p⟩:=b.box t cs h;have f:=i.cells v;have B: ∀d,a.O (e t) d:= λd=>(b.hinv.own _ _).2 (.inl (.inr ⟨t,cs,h,rfl⟩))
   obtain⟨C,D,J⟩:=p.write f z;have E:(c.eval y).cells.size=n:=by rw[f.1,u]
   have F:=qG (P:=X.P) (t:=T) (off:=off) j (by rw[s.size,E]) (by rw[p.1,f.1];exact D) f.flat;refine dT.skip (by simp only[execOp,A,Instr.storeAt,Instr.sureAddr];simp[F];rfl) ?_;have G:dW a {a with w:=db a.w (e t) (.cells (eM l off (c.eval y).cells.toList) o (0,0))} :=dW.db j (gJ _ _ _) (λd H=>(H (B d)).elim);exact⟨.m .undef,_,{a with w:=db a.w (e t) (.cells (eM l off (c.eval y).cells.toList) o (0,0))},e,⟨rfl,rfl⟩,rfl,b.LQ h j (gJ _ _ _) (C.mono G),.m (.undef _)⟩
end ops
def iH(t:Nat):List (Nat×V)->Bool
 | []=>true
 |(_,.loc u _)::r=> !Nat.beq u t&&iH t r
 |_::r=>iH t r
theorem y9: ∀{l:List (Nat×V)} {t k o:Nat},iH t l=true->get l k≠some (.loc t o):=by
 intro l
 induction l with
 |nil=>intro t k o _ e;simp[get]at e
 |cons j l g=>
  intro t k o f e;obtain⟨p,h⟩:=j;cases h with
  |m m=>
   rcases bT e with⟨rfl,a⟩|⟨i,a⟩
   ·cases a
   ·exact g f a
  |tl q b c d=>
   rcases bT e with⟨rfl,a⟩|⟨i,a⟩
   ·cases a
   ·exact g f a
  |loc h r=>
   simp only[iH,avf,avW]at f;rcases bT e with⟨rfl,a⟩|⟨i,a⟩
   ·injection a with n s;subst n;simp at f
   ·exact g f.2 a
def cY(t:Nat):List (Nat×V)->List (Nat×V)
 | []=>[]
 |(k,.loc u o)::r=>bif Nat.beq u t then(k,.m .undef)::cY t r else(k,.loc u o)::cY t r
 |(k,.m m)::r=>(k,.m m)::cY t r
 |(k,.tl a b c d)::r=>(k,.tl a b c d)::cY t r
theorem A9: ∀{l:List (Nat×V)} {t k:Nat} {v:V},get (cY t l) k=some v->(v= .m .undef/\ ∃u,get l k=some u)\/(get l k=some v/\ ∀o,v≠ .loc t o):=by
 intro l
 induction l with
 |nil=>intro t k v a;simp[cY,get]at a
 |cons j l h=>
  intro t k v a;obtain⟨p,u⟩:=j;cases u with
  |m m=>
   unfold cY at a;rcases bT a with⟨rfl,rfl⟩|⟨f,g⟩
   ·exact .inr ⟨by simp[bQ],λo a=>by cases a⟩
   ·rw[bQ,auU (λe=>f e.symm)];exact h g
  |tl q b c d=>
   unfold cY at a;rcases bT a with⟨rfl,rfl⟩|⟨f,g⟩
   ·exact .inr ⟨by simp[bQ],λo a=>by cases a⟩
   ·rw[bQ,auU (λe=>f e.symm)];exact h g
  |loc u o=>
   unfold cY at a;cases i:Nat.beq u t with
   |false=>
    rw[i]at a;rcases bT a with⟨rfl,rfl⟩|⟨f,g⟩
    ·exact .inr ⟨by simp[bQ],λr a=>by injection a with n s;subst n;simp at i⟩
    ·rw[bQ,auU (λe=>f e.symm)];exact h g
   |true=>
    rw[i]at a;rcases bT a with⟨rfl,rfl⟩|⟨f,g⟩
    ·exact .inl ⟨W,.loc u o,by simp[bQ]⟩
    ·rw[bQ,auU (λe=>f e.symm)];exact h g
section ops
variable{X:bJ}{st:St}{dst:Option Nat}{ty:Nat}{pos:String}{af:Array Edge}{g:Option (Nat×Bool)}
theorem cE.Hj{σ:Sg}{Pw:Nat->Nat}{a:Act}{d T:Nat}{cs:List M}{r:Array Value}(hi:cE X σ Pw st a)(z:lz σ cs r):
  ∃s h,s.w= {σ.w with heap:=σ.w.heap.push (.cells r T (0,0))} /\h d=σ.w.heap.size/\cE X s h ⟨cY d st.sl,(d,cs)::st.bx,st.H⟩ a:=by
 let b:=σ.w.heap.size
 let t:World:= {σ.w with heap:=σ.w.heap.push (.cells r T (0,0))}
 let h:Nat->Nat:= λf=>if f=d then b else Pw f
 have u:gG σ.w t:=gG.alloc _ _
 let D:Nat->Nat->Prop:= λc l=>o8 X.kL h ((d,cs)::st.bx) c l\/ ∃(i:Nat) (o:Ob),σ.H[i]?=some o/\σ.l i=c/\o.kE l
 let s:Sg:=⟨t,D,σ.l,σ.H⟩
 have A: ∀f n,get st.bx f=some n->Pw f<b:= λf n p=>(hi.box f n p).lt trivial
 have U: ∀c l,c<b->D c l->σ.O c l:=by
  intro c l Y p;rw[hi.hinv.own];rcases p with(p|⟨f,n,e,j⟩)|p
  ·exact .inl (.inl p)
  ·rcases bT e with⟨rfl,rfl⟩|⟨g,k⟩
   ·simp[h]at j;omega
   ·simp[h,g]at j;exact .inl (.inr ⟨f,n,k,j⟩)
  ·exact .inr p
 have w:dW σ s:=by
  refine⟨λc l v e j=>⟨u.cell e,λg=>j (U c l (mN e) g)⟩,λi cs e=>⟨⟨cs,e⟩,rfl⟩,λi cs e=>⟨⟨cs,e⟩,rfl⟩,λi cs e=>⟨⟨cs,e⟩,rfl⟩,λi e=>e,
   λi V Z H cs e=> .inr ⟨V,H,cs,e,auK _,λ_=>⟨rfl,rfl,λr T I=>⟨r,u.heap I,rfl⟩⟩⟩,λ_ p=>⟨_,p⟩⟩
 have J: ∀(i:Nat) o,σ.H[i]?=some o->o.live->σ.l i<b:= λi o e j=>(hi.hinv.obj i o e).lt j
 refine⟨s,h,W,by simp[h,b],?_⟩;refine⟨hi.hH,hi.defers,hi.size,?_,?_,?_,?_,?_,?_,hi.mono.trans w,?_⟩
 ·intro C v p;rcases A9 p with⟨rfl,f,e⟩|⟨e,j⟩
  ·obtain⟨y,g,_⟩:=hi.slot C f e;exact⟨y,g,.m (.undef _)⟩
  ·obtain⟨y,g,k⟩:=hi.slot C v e;refine⟨y,g,?_⟩;cases k with
   |m k=>exact .m (k.mono w)
   |tl i K L N O P Q R=>exact RV.mono (Pw:=h) w (.tl i K L N O P Q R)
   |loc f l=>
    have S:f≠d:=by rintro rfl;exact j l W
    have:h f=Pw f:=by simp[h,S]
    rw[<-this];exact .loc f l
 ·intro f n e;rcases bT e with⟨rfl,rfl⟩|⟨g,k⟩
  ·refine⟨r,T,?_,z.mono w⟩;simp[h,s,t,b]
  ·have:h f=Pw f:=by simp[h,g]
   rw[this];exact(hi.box f n k).cK w λG B=>u.heap B
 ·intro f v n E e j g;rcases bT e with⟨rfl,rfl⟩|⟨k,q⟩<;>rcases bT j with⟨rfl,rfl⟩|⟨x,F⟩
  ·rfl
  ·simp[h,x]at g;have:=A v E F;omega
  ·simp[h,k]at g;have:=A f n q;omega
  ·simp[h,k,x]at g;exact hi.sP f v n E q F g
 ·intro f n e l j;rcases bT e with⟨rfl,rfl⟩|⟨k,q⟩
  ·simp[h]at j;have:=hi.hinv.nt _ _ (.inl j);simp[b]at this
  ·simp[h,k]at j;exact hi.th f n q l j
 ·intro f n e;rcases bT e with⟨rfl,rfl⟩|⟨k,q⟩
  ·simp[h];exact hi.cy.size
  ·simp[h,k];exact hi.tj f n q
 ·refine⟨λi o e=>(hi.hinv.obj i o e).cK w λG B=>u.heap B,hi.hinv.inj,λc l=>avU,?_,?_⟩
  ·intro i o e j l g;have PP:=J i o e j;rcases g with g|⟨f,n,g,k⟩
   ·exact hi.hinv.sep i o e j l (.inl g)
   ·rcases bT g with⟨rfl,rfl⟩|⟨q,x⟩
    ·simp[h]at k;change b=σ.l i at k;omega
    ·simp[h,q]at k;exact hi.hinv.sep i o e j l (.inr ⟨f,n,x,k⟩)
  ·intro c l g;have hw:t.heap.size=b+1:=by simp[t,b]
   show c<t.heap.size;rcases g with g|⟨f,n,g,k⟩
   ·have:=hi.hinv.nt c l (.inl g);omega
   ·rcases bT g with⟨rfl,rfl⟩|⟨q,x⟩
    ·simp[h]at k;omega
    ·simp[h,q]at k;have:=A f n x;omega
 ·refine hi.cy.trans ⟨W,W,W,u.size,λc z _=>u.cy c z,λi o e j=> .inr ⟨o,e,j,rfl⟩⟩
class yw(P:Program)(t:Nat)(z:outParam D):Prop where
 run: ∃v,(∀w,(zeroValue t).run P w= .ok v w)/\rL v=some z
theorem gW{P:Program}{t:Nat}{z:D}(h:uz P t=some z):yw P t z:=by
 unfold uz at h;split at h
 ·rename_i c a;split at h
  ·rename_i v b;exact⟨v,λd=>by simp[zeroValue,typeInfo,program,Sem.run,a,b],h⟩
  ·cases h
 ·cases h
theorem Bs{T d:Nat}{z:D}[b:yw X.P T z]:
  cQ X ⟨some d,.alloc T,ty,pos,af,g⟩ st (dy (.loc d 0) ⟨cY d st.sl,(d,(bu z).map .d)::st.bx,st.H⟩):=by
 intro o a p c;obtain⟨v,e,f⟩:=b.run;have h:RM a (.d z) v:= .d (fC f);have i:=h.cells W;obtain⟨j,k,l,m,n⟩:=c.Hj (d:=d) (T:=T) i;refine dT.value (u:= .pointer (some ⟨a.w.heap.size,0,none⟩)) (w':= {a.w with heap:=a.w.heap.push (.cells v.cells T (0,0))}) ?_ ⟨.loc d 0,_,j,k,⟨rfl,rfl⟩,l,n,?_⟩
 ·simp[execOp,Instr.alloc,e,newVar,newRow,newObj,Sem.run]
 ·rw[<-m];exact .loc d 0
theorem JK{T d:Nat}{x:Operand}{m:M}(f:st.ev x=some (.m m))(h:m.i_=true):
  cQ X ⟨some d,.box T x,ty,pos,af,g⟩ st (dy (.loc d 0) ⟨cY d st.sl,(d,cellsOf m)::st.bx,st.H⟩):=by
 intro e a p c;have b:=c.ev f;cases b with
 |m b=>
  have i:=b.cells h;obtain⟨j,k,l,n,o⟩:=c.Hj (d:=d) (T:=T) i;refine dT.value (u:= .pointer (some ⟨a.w.heap.size,0,none⟩)) (w':= {a.w with heap:=a.w.heap.push (.cells (e.eval x).cells T (0,0))}) ?_ ⟨.loc d 0,_,j,k,⟨rfl,rfl⟩,l,o,?_⟩
  ·simp[execOp,Instr.box,newVar,newRow,newObj,Sem.run]
  ·rw[<-n];exact .loc d 0
end ops
theorem oZ: ∀(b:List Value) (k off:Nat) (a:Array Value),
  (b.zipIdx k).foldl (λcs (x:Value×Nat)=>cs.setIfInBounds (off+x.2) x.1) a=eM a (off+k) b
 | [],k,off,a=>rfl
 |v::c,k,off,a=>by
  rw[List.zipIdx_cons,avZ,oZ c (k+1) off];rfl
def gK(place:Nat->Option (Nat×Nat))(cs:List M):List (Nat×M)->Option (List M)
 | []=>some cs
 |(i,m)::r=>match place i with
  |some (off,size)=>bif (Nat.beq (cellsOf m).length size&&m.i_)then(match ep cs off (cellsOf m)with
   |some PV=>gK place PV r
   |none=>none)else none
  |none=>none
theorem qY{σ:Sg}{w:Nat->Option (Nat×Nat)} : ∀{parts:List (Nat×M)} {h:List (Nat×Value)} {cs PV:List M} {c:Array Value},lz σ cs c->
  parts.length=h.length->(∀(k:Nat) p q,parts[k]?=some p->h[k]?=some q->p.1=q.1/\RM σ p.2 q.2)->gK w cs parts=some PV->
  ∃g,Instr.fill w c h=some g/\lz σ PV g
 | [],[],cs,PV,c,f,_,_,a=>by simp[gK]at a;subst a;exact⟨c,W,f⟩
 |p::G,q::H,cs,PV,c,f,d,n,a=>by
  obtain⟨E,m⟩:=p;obtain⟨F,v⟩:=q;obtain⟨o,r⟩:=n 0 _ _ W W;simp at o r;subst o;unfold gK at a;split at a
  ·rename_i j u y;cases e:(Nat.beq (cellsOf m).length u&&m.i_)with
   |false=>simp[e]at a
   |true=>
    simp only[e,avx]at a;simp only[avf]at e;have z:=auZ e.1;split at a
    ·rename_i K A;have i:=r.cells e.2;obtain⟨B,I,J⟩:=f.write i A;obtain⟨g,s,C⟩:=qY B (by simpa using d) (λk p q x b=>n (k+1) p q (by simpa using x) (by simpa using b)) a;refine⟨g,?_,C⟩;unfold Instr.fill;simp only[y];have t:v.cells.size=u:=by rw[i.1,z]
     have D: ¬(j+v.cells.size>c.size):=by rw[i.1,f.1];omega
     rw[auU (by simp[t];rw[t]at D;omega)];have:v.cells.zipIdx.foldl (λcs (l:Value×Nat)=>cs.setIfInBounds (j+l.2) l.1) c=eM c j v.cells.toList:=by
      rw[<-Array.foldl_toList,Array.toList_zipIdx,oZ];rfl
     rw[<-this]at s;exact s
    ·cases a
  ·cases a
 | [],_::_,_,_,_,_,d,_,_=>by simp at d
 |_::_,[],_,_,_,_,d,_,_=>by simp at d
def qZ(P:Program)(t:Nat):Option (List (Nat×Nat)):=
 match P.underlying t with
 |some (.struct fields)=>fields.toList.mapM λf=>(gm P f.type).map λn=>(f.offset,n)
 |_=>none
class k7(P:Program)(t:Nat)(CG:outParam (List (Nat×Nat)))(z:outParam (List D)):Prop where
 CG:qZ P t=some CG
 zero:uz P t=some (.agg z)
theorem v9{P:Program}{w:World} : ∀{b:List Field} {ps:List (Nat×Nat)},(b.mapM λf=>(gm P f.type).map λn=>(f.offset,n))=some ps->
  (b.mapM λf=>(do pure (f.offset,<-sizeOf f.type):Sem (Nat×Nat))).run P w= .ok ps w
 | [],ps,a=>by simp at a;subst a;simp
 |f::b,ps,a=>by
  rw[axb]at a;cases c:gm P f.type with
  |none=>simp[c]at a
  |some n=>
   simp only[c,awC,Option.bind_eq_bind,axi]at a;cases d:(b.mapM λf=>(gm P f.type).map λn=>(f.offset,n))with
   |none=>simp[d]at a
   |some e=>
    simp[d]at a;subst a;rw[axb];simp only[Sem.run_bind,dx c,Result.andThen_ok,Sem.run_pure,v9 d]
def eG(st:St):List (Nat×Operand)->Option (List (Nat×M))
 | []=>some []
 |(i,x)::r=>match st.ev x,eG st r with
  |some (.m m),some ms=>some ((i,m)::ms)
  |_,_=>none
section ops
variable{X:bJ}{st:St}{dst:Option Nat}{ty:Nat}{pos:String}{af:Array Edge}{g:Option (Nat×Bool)}
theorem cE.eG{σ:Sg}{Pw:Nat->Nat}{a:Act}(hi:cE X σ Pw st a): ∀{xs:List (Nat×Operand)} {ms:List (Nat×M)},eG st xs=some ms->
  ms.length=(xs.map λp=>(p.1,a.eval p.2)).length/\ ∀(k:Nat) p q,ms[k]?=some p->(xs.map λp=>(p.1,a.eval p.2))[k]?=some q->p.1=q.1/\RM σ p.2 q.2
 | [],ms,b=>by simp[Mt.eG]at b;subst b;simp
 |(j,l)::n,ms,b=>by
  simp only[Mt.eG]at b;split at b
  ·rename_i m o e f;injection b with b;subst b
   obtain⟨g,h⟩:=hi.eG f;have i:=hi.ev e;refine⟨by simpa using g,λk p q c d=> ?_⟩;cases k with
   |zero=>simp at c d;subst c;subst d;cases i with|m b=>exact⟨W,b⟩
   |succ k=>simp at c;exact h k p q c (by simpa using d)
  ·cases b
theorem xa{T:Nat}{parts:List (Nat×Operand)}{ps:List (Nat×Nat)}{z:List D}{ms:List (Nat×M)}{cs:List M}[ht:k7 X.P T ps z](k:eG st parts=some ms)
  (hf:gK (λa=>ps[a]?) (z.map .d) ms=some cs):cQ X ⟨dst,.build T parts.toArray,ty,pos,af,g⟩ st (dy (.m (pack cs)) st):=by
 refine PN λc e G l=> ?_
 obtain⟨n,o⟩:=l.eG k;have p: ∃v,(∀w,(zeroValue T).run X.P w= .ok v w)/\rL v=some (.agg z):=(gW ht.zero).run;obtain⟨v,q,r⟩:=p;have s:lz e (z.map .d) v.cells:=(RM.d (fC r):RM e (.d (.agg z)) v).cells W;obtain⟨t,u,d⟩:=qY s n o hf;refine⟨.agg t,?_,.m ?_⟩
 ·have f:=ht.CG;unfold qZ at f;split at f
  ·rename_i F x;have y:=v9 (w:=e.w) f;have A:(F.mapM λi=>(do pure (i.offset,<-sizeOf i.type):Sem (Nat×Nat))).run X.P e.w= .ok ps.toArray e.w:=by
    rw[axd];simp only[Functor.map,Sem.run_bind'];rw[y];rfl
   simp only[execOp,Instr.build];simp only[Sem.run_bind,q,Result.andThen_ok,underlying,program,Sem.run,x,Sem.run_pure];simp only[A,Result.andThen_ok];have:(Array.map (λh:Nat×Operand=>match h with|(a,h)=>(a,c.eval h)) parts.toArray).toList=parts.map λj=>(j.1,c.eval j.2):=by simp
   simp only[this];have B:(λa:Nat=>ps.toArray[a]?)= λa:Nat=>ps[a]?:=by funext a;simp
   rw[B,u];simp
  ·cases f
 ·unfold pack;split
  ·rename_i C E;have:=vX.kK ⟨d.1,λa m v c b=>(d.2 a m v c b).1⟩ E;exact .d (.agg C _ this.1 d.flat this.2)
  ·exact .agg _ _ d.1 d.flat (λa m v c b=>(d.2 a m v c b).1)
def eO(n len:Nat)(z:List D):List M:=(List.range (len*n)).map λi=> .d (z.getD (i%z.length) default)
theorem qg{n:Nat} : ∀{k:Nat} {cs:List M} {rows:List (List D)},chunk n k cs=some rows->cs.length=k*n->
  rows.length=k/\(∀r∈rows,r.length=n)/\ ∀(i j:Nat) r d,rows[i]?=some r->r[j]?=some d->cs[i*n+j]?=some (.d d)
 |0,[],rows,a,_=>by simp[chunk]at a;subst a;simp
 |0,_::_,rows,a,_=>by simp[chunk]at a
 |k+1,cs,rows,a,g=>by
  unfold chunk at a;split at a
  ·rename_i r v m o;injection a with a;subst a
   have p:(cs.drop n).length=k*n:=by simp[g,awo]
   obtain⟨q,s,t⟩:=qg o p;have h:=vh m;have l:r.length=n:=by
    have:=av3 List.length h;simp at this;rw[g,awo]at this;omega
   refine⟨by simp[q],?_,?_⟩
   ·intro c b;simp at b;rcases b with rfl|b
    ·exact l
    ·exact s c b
   ·intro i j c d b f;cases i with
    |zero=>
     simp at b;subst b;have u:j<n:=by rw[<-l];rcases auM j r.length with a|a;exact a;simp[auP a]at f
     have:(cs.take n)[j]?=some (.d d):=by rw[h];simp[f]
     rw[awK u]at this;simpa using this
    |succ i=>
     simp at b;have:=t i j c d b f;rw[awA]at this;have e:(i+1)*n+j=n+(i*n+j):=by rw[awo];omega
     rw[e];exact this
  ·cases a
theorem gv.JL{O:Nat->Nat->Prop}{w:World}{n k T:Nat}{rows:List (List D)}{i:Array Value}(A:0<n)(r: ∀b o,O b o->b<w.heap.size)(s:rows.length=k)(l: ∀f∈rows,f.length=n)
  (t:i.size=k*n) (u:k<=140737488355328) (h: ∀(a c:Nat) f d v,rows[a]?=some f->f[c]?=some d->i[a*n+c]?=some v->gv O w d v/\flat v=true):
  gv O {w with heap:=w.heap.push (.cells i T (0,0))} (.sl rows) (.slice (some ⟨w.heap.size,0,none⟩) k k):=by
 subst s;by_cases p:rows= []
 ·subst p;exact .slnil _
 ·have m: ∀a c,a<rows.length->c<n->a*n+c<i.size:=by
   intro a c e g;rw[t]
   calc a*n+c<a*n+n:=by omega
    _=(a+1)*n:=by rw[awo]
    _<=rows.length*n:=avk _ e
  refine .sl rows w.heap.size 0 rows.length n (λa c=>i.getD (a*n+c) undef) p (auK _) u l ?_ ?_ ?_
  ·intro a c e g;refine⟨?_,λx=>by have:=r _ _ x;omega⟩;rw[awc,yP];simp[m a c e g]
  ·intro a c e g;have j:rows[a].length=n:=l _ (avb e);exact(h a c rows[a] (rows[a])[c] _ (by simp[e]) (by simp[j,g]) (by simp[m a c e g])).2
  ·intro a c f d j q;have e:a<rows.length:=by rcases auM a rows.length with h|h;exact h;simp[auP h]at j
   have g:c<n:=by
    rw[<-l f (auQ j)];rcases auM c f.length with h|h;exact h;simp[auP h]at q
   have:=(h a c f d (i.getD (a*n+c) undef) j q (by simp[m a c e g])).1;exact this.mono λb o v y z=>⟨(gG.alloc w _).cell y,z⟩
theorem y_{T e n len:Nat}{parts:List (Nat×Operand)}{z:D}{ms:List (Nat×M)}{cs:List M}{rows:List (List D)}[ht:aZ X.P T e][u:bY X.P e n][J:g_ X.P e z]
  (K:Nat.blt 0 n=true) (w:(bu z).length=n) (ac:Nat.ble (len*n) 16777216=true) (L:eG st parts=some ms)
  (hf:gK (λa=>some (a*n,n)) (eO n len (bu z)) ms=some cs) (ah:chunk n len cs=some rows):
  cQ X ⟨dst,.buildSlice T len parts.toArray,ty,pos,af,g⟩ st (dy (.m (.d (.sl rows))) st):=by
 refine cQ.grow λf h Pw x=> ?_
 have p:=bO K;have d6:=avG ac;obtain⟨N,O⟩:=x.eG L;obtain⟨v,P,Q⟩:=(gW J.zero).run;have y:lz h ((bu z).map .d) v.cells:=(RM.d (fC Q):RM h (.d z) v).cells W;have R:v.cells.size=n:=by rw[y.1];simpa using w
 have S:lz h (eO n len (bu z)) ((Array.range (len*n)).map λa=>v.cells[a%v.cells.size]!):=by
  refine⟨by simp[eO],λa m t A i=> ?_⟩;have B:a<len*n:=by
   rcases auM a (len*n)with c|c
   ·exact c
   ·rw[avu (by simpa using c)]at i;cases i
  have Uf:a%n<n:=awu _ p;have U:a%n<(bu z).length:=by omega
  simp[eO,B,w]at A;simp[B,R]at i;have V:a%n<v.cells.size:=by omega
  subst A;subst i;refine y.2 (a%n) _ _ ?_ ?_
  ·simp[auO U]
  ·simp[V]
 obtain⟨C,q,E⟩:=qY S N O hf;have G:cs.length=len*n:=by
  have Y: ∀{k:List (Nat×M)} {f b:List M},gK (λa=>some (a*n,n)) f k=some b->b.length=f.length:=by
   intro k
   induction k with
   |nil=>intro f b c;simp[gK]at c;subst c;rfl
   |cons j k Z=>
    intro f b c;obtain⟨a,m⟩:=j;unfold gK at c;simp only at c;cases F:(Nat.beq (cellsOf m).length n&&m.i_)with
    |false=>simp[F]at c
    |true=>
     simp only[F,avx]at c;split at c
     ·rename_i a1 l;rw[Z c];unfold ep at l;cases r:Nat.ble (a*n+(cellsOf m).length) f.length with
      |false=>simp[r]at l
      |true=>
       simp only[r,avx,av2]at l;subst l;have:=avG r;simp;omega
     ·cases c
  rw[Y hf];simp[eO]
 obtain⟨h5,h6,h7⟩:=qg ah G;have ZR:C.size=len*n:=by rw[E.1,G]
 refine⟨.slice (some ⟨h.w.heap.size,0,none⟩) len len,{h.w with heap:=h.w.heap.push (.cells C e (0,0))},?_,gG.alloc _ _,.m (.d (gv.JL p x.hinv.DK h5 h6 ZR (by have:=avr len p;omega) ?_))⟩
 ·have:(Array.map (λo:Nat×Operand=>match o with|(a,o)=>(a,f.eval o)) parts.toArray).toList=parts.map λj=>(j.1,f.eval j.2):=by simp
  have co: ¬(len*n>2^24):=by omega
  by_cases s:len*n=0
  ·have WQ:len=0:=by
    rcases awO.1 s with c|c
    ·exact c
    ·omega
   subst WQ;have UM:((Array.range (0*n)).map λa=>v.cells[a%v.cells.size]!)= #[]:=by simp
   rw[UM]at q;simp only[execOp,Instr.buildSlice,Sem.run_bind,underlying,program,Sem.run,ht.u,Sem.run_pure,Result.andThen_ok,dx u.size,Sem.run_ite,s,awr,this];have e0:Array.range 0=(#[]:Array Nat):=by decide
   simp only[e0,axs];rw[q];simp[newRow,newObj,Sem.run]
  ·simp only[execOp,Instr.buildSlice,Sem.run_bind,underlying,program,Sem.run,ht.u,Sem.run_pure,Result.andThen_ok,dx u.size,Sem.run_ite,co,awi,s,P,this];rw[q];simp[newRow,newObj,Sem.run]
 ·intro a H I d t hr hd i;have:=E.2 _ _ t (h7 a H I d hr hd) i;refine⟨?_,this.2⟩;cases this.1 with
  |d c=>exact c
end ops
def wr:List M->Nat->List M->Option (List M)
 |cs,0,[]=>some cs
 |_::cs,0,n::new=>match wr cs 0 new with
  |some r=>some (n::r)
  |none=>none
 |c::cs,off+1,new=>match wr cs off new with
  |some r=>some (c::r)
  |none=>none
 |_,_,_=>none
theorem tt: ∀{cs:List M} {off:Nat} {a PV:List M},wr cs off a=some PV->ep cs off a=some PV
 |cs,0,[],PV,b=>by
  simp[wr]at b;subst b;have:Nat.ble 0 cs.length=true:=avJ (avp _);simp[ep,this]
 |c::cs,0,k::a,PV,b=>by
  simp only[wr]at b;cases f:wr cs 0 a with
  |none=>simp[f]at b
  |some h=>
   simp[f]at b;subst b;have d:=tt f;unfold ep at d⊢;cases g:Nat.ble (0+a.length) cs.length with
   |false=>rw[g]at d;cases d
   |true=>
    have l:=avG g;have i:Nat.ble (0+(k::a).length) (c::cs).length=true:=avJ (by simp;omega);simp only[g,avx,av2]at d;simp only[i,avx,av2];simp at d⊢;exact d
 |c::cs,off+1,a,PV,b=>by
  have j:(match wr cs off a with|some h=>some (c::h)|none=>none)=some PV:=by
   cases a<;>simpa [wr] using b
  cases f:wr cs off a with
  |none=>simp[f]at j
  |some h=>
   simp[f]at j;subst j;have d:=tt f;unfold ep at d⊢;cases g:Nat.ble (off+a.length) cs.length with
   |false=>simp[g]at d
   |true=>
    have l:=avG g;have i:Nat.ble (off+1+a.length) (c::cs).length=true:=avJ (by simp;omega);simp only[g,avx,av2]at d;simp only[i,avx,av2];have e:off+1+a.length=(off+a.length)+1:=by omega
    rw[e,awv,List.drop_succ_cons,avM,avM,d]
 | [],0,_::_,PV,b=>by simp[wr]at b
 | [],_+1,a,PV,b=>by cases a<;>simp[wr]at b
def sub{α:Type} :List α->Nat->Nat->Option (List α)
 |_,0,0=>some []
 |c::cs,0,n+1=>match sub cs 0 n with
  |some r=>some (c::r)
  |none=>none
 |_::cs,off+1,n=>sub cs off n
 | [],_,_=>none
theorem sub_eq{e:Type} : ∀{cs:List e} {off n:Nat} {ds:List e},sub cs off n=some ds->off+n<=cs.length/\(cs.drop off).take n=ds
 |cs,0,0,ds,a=>by simp[sub]at a;subst a;simp
 |c::cs,0,n+1,ds,a=>by
  simp only[sub]at a;cases b:sub cs 0 n with
  |none=>simp[b]at a
  |some h=>
   simp[b]at a;subst a;obtain⟨f,d⟩:=sub_eq b;refine⟨by simp;omega,?_⟩;simp at d⊢;exact d
 |c::cs,off+1,n,ds,a=>by
  have g:sub cs off n=some ds:=by cases n<;>simpa [sub] using a
  obtain⟨f,d⟩:=sub_eq g;exact⟨by simp;omega,by grind⟩
 | [],0,n+1,ds,a=>by simp[sub]at a
 | [],off+1,n,ds,a=>by cases n<;>simp[sub]at a
def uU:List D->Option (List M)
 | []=>some []
 |d::r=>match uU r with
  |some ms=>some (.d d::ms)
  |none=>none
theorem q9: ∀{ds:List D} {ms:List M},uU ds=some ms->ms=ds.map .d
 | [],ms,a=>by simp[uU]at a;subst a;rfl
 |d::c,ms,a=>by
  simp only[uU]at a;cases b:uU c with
  |none=>simp[b]at a
  |some e=>simp[b]at a;subst a;simp[q9 b]
def iW:M->Option (List M)
 | .d (.agg ds)=>uU ds
 | .agg cs=>some cs
 | .undef=>none
 | .dq _=>none
 |m=>some [m]
theorem c7{m:M}{cs:List M}(h:iW m=some cs):cellsOf m=cs/\m.i_=true:=by
 unfold iW at h;split at h
 ·rename_i g;rw[q9 h];exact⟨W,W⟩
 ·injection h with h;subst h;exact⟨W,W⟩
 ·cases h
 ·cases h
 ·rename_i b c e f;injection h with h;subst h
  cases m with
  |d a=>cases a<;>first|exact⟨rfl,rfl⟩|exact absurd W (b _)
  |undef=>exact absurd W e
  |dq i=>exact absurd W (f _)
  |agg cs=>exact absurd W (c _)
  |_=>exact⟨W,W⟩
def vk(ps:List (Nat×Nat))(cs:List M):List (Nat×M)->Option (List M)
 | []=>some cs
 |(i,m)::r=>match ps[i]?,iW m with
  |some (off,size),some new=>bif Nat.beq new.length size then(match wr cs off new with
   |some PV=>vk ps PV r
   |none=>none)else none
  |_,_=>none
theorem uC{ps:List (Nat×Nat)} : ∀{parts:List (Nat×M)} {cs PV:List M},vk ps cs parts=some PV->gK (λi=>ps[i]?) cs parts=some PV
 | [],cs,PV,a=>by simpa [vk,gK] using a
 |(i,m)::k,cs,PV,a=>by
  simp only[vk]at a;split at a
  ·rename_i l j h c d;obtain⟨e,f⟩:=c7 d;cases b:Nat.beq h.length j with
   |false=>simp[b]at a
   |true=>
    simp only[b,avx]at a;split at a
    ·rename_i n g;simp only[gK,c,e,f,b,axA,avx,tt g];exact uC a
    ·cases a
  ·cases a
def pI:Nat->List (Nat×M)->Option (List (List D))
 |_,[]=>some []
 |k,(i,.d d)::r=>bif Nat.beq i k then(match pI (k+1) r with
  |some rs=>some (bu d::rs)
  |none=>none)else none
 |_,_=>none
def iE(sl:List (Nat×V)):List (Nat×Operand)->Option (List (Nat×M))
 | []=>some []
 |(i,x)::r=>match bw sl x,iE sl r with
  |some (.m m),some ms=>some ((i,m)::ms)
  |_,_=>none
theorem je{sl:List (Nat×V)}{bx:List (Nat×List M)}{H:Hp} : ∀{ps:List (Nat×Operand)},eG ⟨sl,bx,H⟩ ps=iE sl ps
 | []=>rfl
 |(b,c)::a=>by simp only[eG,iE,je (ps:=a)];rfl
theorem y'{n:Nat}(j:0<n): ∀{ms:List (Nat×M)} {k:Nat} {rows:List (List D)} {pre Xx:List M},pI k ms=some rows->(∀r∈rows,r.length=n)->pre.length=k*n->Xx.length=ms.length*n->
  gK (λi=>some (i*n,n)) (pre++Xx) ms=some (pre++(rows.map λr=>r.map M.d).flatten)/\rows.length=ms.length
 | [],k,rows,pre,Xx,a,_,_,b=>by
  simp[pI]at a;subst a;simp at b;subst b;simp[gK]
 |(i,m)::r,k,rows,pre,Xx,a,h,e,b=>by
  cases m with
  |d d=>
   simp only[pI]at a;cases f:Nat.beq i k with
   |false=>simp[f]at a
   |true=>
    have:=auZ f;subst this;simp only[f,avx]at a;split at a
    ·rename_i v g;injection a with a;subst a
     have l:(bu d).length=n:=h _ (by simp);have w:n<=Xx.length:=by rw[b];simp[awo]
     have c:(cellsOf (.d d)).length=n:=by simp[cellsOf,l]
     have o:ep (pre++Xx) (i*n) (cellsOf (.d d))=some ((pre++cellsOf (.d d))++Xx.drop n):=by
      unfold ep;rw[avJ (by simp[c];omega)];have p:List.take (i*n) (pre++Xx)=pre:=by rw[<-e];simp
      have q:List.drop (i*n+n) (pre++Xx)=List.drop n Xx:=by
       rw[<-e,List.drop_append,axo (by omega)];simp
      simp only[avx,c,p,q]
     obtain⟨s,t⟩:=y' j (k:=i+1) (pre:=pre++cellsOf (.d d)) (Xx:=Xx.drop n) g (λr g=>h r (by simp[g])) (by simp[e,c,awo]) (by simp[b,awo]);refine⟨?_,by simp[t]⟩;unfold gK;have u:Nat.beq (cellsOf (.d d)).length n=true:=by rw[c];exact aw9 n
     simp only[u,M.i_,axA,avx,o];rw[s];simp[cellsOf]
    ·cases a
  |_=>simp[pI]at a
theorem tu{n:Nat} : ∀{rows:List (List D)},(∀r∈rows,r.length=n)->chunk n rows.length (rows.map λr=>r.map M.d).flatten=some rows
 | [],_=>rfl
 |r::a,d=>by
  have e:=d r (by simp);have h: ∀b:List D,kK (b.map .d)=some b:=by
   intro b;induction b with
   |nil=>rfl
   |cons i b c=>simp[kK,c]
  have c:=tu (n:=n) (rows:=a) (λr e=>d r (by simp[e]));show chunk n (a.length+1) ((r.map M.d)++(a.map λr=>r.map M.d).flatten)=_;unfold chunk;have f:((r.map M.d)++(a.map λr=>r.map M.d).flatten).take n=r.map M.d:=by
   grind
  have g:((r.map M.d)++(a.map λr=>r.map M.d).flatten).drop n=(a.map λr=>r.map M.d).flatten:=by
   grind
  rw[f,g,h,c]
def mO(n:Nat):List (List D)->Bool
 | []=>true
 |r::rs=>Nat.beq r.length n&&mO n rs
theorem vl{n:Nat} : ∀{rows:List (List D)},mO n rows=true-> ∀r∈rows,r.length=n
 | [],_,r,a=>by cases a
 |c::d,b,r,a=>by
  simp only[mO,avf]at b;cases a with
  |head=>exact auZ b.1
  |tail _ a=>exact vl b.2 r a
def iz(sl:List (Nat×V)):List Operand->Option (List D)
 | []=>some []
 |x::r=>match bw sl x,iz sl r with
  |some (.m (.d d)),some ds=>some (d::ds)
  |_,_=>none
def gD(sl:List (Nat×V)):List Operand->Option (List M)
 | []=>some []
 |x::r=>match bw sl x,gD sl r with
  |some (.m m),some ds=>some (m::ds)
  |_,_=>none
theorem tv{sl:List (Nat×V)}{bx:List (Nat×List M)}{H:Hp} : ∀{ps:List Operand},(⟨sl,bx,H⟩:St).iz ps=iz sl ps
 | []=>rfl
 |b::a=>by simp only[St.iz,iz,tv (ps:=a)];rfl
theorem oA{sl:List (Nat×V)}{bx:List (Nat×List M)}{H:Hp} : ∀{ps:List Operand},(⟨sl,bx,H⟩:St).gD ps=gD sl ps
 | []=>rfl
 |b::a=>by simp only[St.gD,gD,oA (ps:=a)];rfl
section rules
variable{X:bJ}{ops:Array Oper}{rest:List Oper}{post:St->Prop}{sl:List (Nat×V)}{bx:List (Nat×List M)}{H:Hp}{d ty:Nat}{pos:String}{af:Array Edge}
theorem Qi{o:Oper}{v:V}{P9:List (Nat×V)}{Qr:List (Nat×List M)}{H':Hp}(a:o.guard=none)(b:o.dst=some d)(c:Nat.blt d X.n=true)(h:cQ X o ⟨sl,bx,H⟩ (dy v ⟨P9,Qr,H'⟩))
  (k:TL X ops rest ⟨(d,v)::P9,Qr,H'⟩ post):TL X ops (o::rest) ⟨sl,bx,H⟩ post:=
 TL.mL (by simp[kp,a]) b c h k
theorem av{dst:Option Nat}{op:Op}{j:Nat}{w:Bool}(g:kp ops ⟨dst,op,ty,pos,af,some (j,w)⟩ ⟨sl,bx,H⟩=some true)
  (k:TL X ops (⟨dst,op,ty,pos,af,none⟩::rest) ⟨sl,bx,H⟩ post):TL X ops (⟨dst,op,ty,pos,af,some (j,w)⟩::rest) ⟨sl,bx,H⟩ post:=by
 rintro a h ⟨f,i,l,c⟩;have:=k a h ⟨f,i,l,c⟩;unfold wpList at this⊢;rw[au2 (c.wanted g)];rw[au2 (by simp[Region.wanted])]at this;have e: ∀b:Option (Nat×Bool),execOp a.eval ⟨dst,op,ty,pos,af,b⟩=execOp a.eval ⟨dst,op,ty,pos,af,none⟩:=by
  intro b;cases op<;>rfl
 rcases this with this|⟨d,m⟩
 ·left;unfold Oper.wp at this⊢;rw[e];exact this
 ·right;refine⟨?_,m⟩;unfold Oper.asks at d⊢;rw[e];exact d
theorem ax{op:Op}{j:Nat}{w:Bool}(a:kp ops ⟨some d,op,ty,pos,af,some (j,w)⟩ ⟨sl,bx,H⟩=some false)(b:Nat.blt d X.n=true)
  (k:TL X ops rest ⟨(d,.m (.dq []))::sl,bx,H⟩ post):TL X ops (⟨some d,op,ty,pos,af,some (j,w)⟩::rest) ⟨sl,bx,H⟩ post:=
 TL.skip a W b k
theorem dY{op:BinOp}{b c:Nat}{x y:Operand}{a:IntKind}{m n:Int}{r:D}(e:Nat.blt d X.n=true)(f:bw sl x=some (.m (.d (.int a m))))(g:bw sl y=some (.m (.d (.int a n))))
  (h:mM op a m n=some r) (k:TL X ops rest ⟨(d,.m (.d r))::sl,bx,H⟩ post):TL X ops (⟨some d,.binOp op b x y c,ty,pos,af,none⟩::rest) ⟨sl,bx,H⟩ post:=
 Qi W W e (vZ f g h) k
theorem az{a b:Nat}{x y:Operand}{m n:Int}(c:Nat.blt d X.n=true)(e:bw sl x=some (.m (.d (.int .i64 m))))(f:bw sl y=some (.m (.d (.int .i64 n))))
  (g: -9223372036854775808<=m+n/\m+n<=9223372036854775807) (k:TL X ops rest ⟨(d,.m (.d (.int .i64 (m+n))))::sl,bx,H⟩ post):TL X ops (⟨some d,.binOp .add a x y b,ty,pos,af,none⟩::rest) ⟨sl,bx,H⟩ post:=by
 refine dY c e f (r:= .int .i64 (m+n)) ?_ k;have:IntKind.i64.wrap (m+n)=m+n:=IntWalk.i64_in _ g;simp[mM,this]
theorem cL{a b:Nat}{x y:Operand}{m n:Int}(c:Nat.blt d X.n=true)(e:bw sl x=some (.m (.d (.int .i64 m))))(f:bw sl y=some (.m (.d (.int .i64 n))))
  (g: -9223372036854775808<=m-n/\m-n<=9223372036854775807) (k:TL X ops rest ⟨(d,.m (.d (.int .i64 (m-n))))::sl,bx,H⟩ post):TL X ops (⟨some d,.binOp .sub a x y b,ty,pos,af,none⟩::rest) ⟨sl,bx,H⟩ post:=by
 refine dY c e f (r:= .int .i64 (m-n)) ?_ k;have:IntKind.i64.wrap (m-n)=m-n:=IntWalk.i64_in _ g;simp[mM,this]
theorem JM{b c:Nat}{x y:Operand}{a:IntKind}{m n:Int}(e:Nat.blt d X.n=true)(f:bw sl x=some (.m (.d (.int a m))))(g:bw sl y=some (.m (.d (.int a n))))
  (h:(n==0)=false) (k:TL X ops rest ⟨(d,.m (.d (.int a (a.wrap (m.tdiv n)))))::sl,bx,H⟩ post):TL X ops (⟨some d,.binOp .quo b x y c,ty,pos,af,none⟩::rest) ⟨sl,bx,H⟩ post:=
 Qi W W e (Hg f g h) k
theorem pJ{b c:Nat}{x y:Operand}{a:IntKind}{m n:Int}(e:Nat.blt d X.n=true)(f:bw sl x=some (.m (.d (.int a m))))(g:bw sl y=some (.m (.d (.int a n))))
  (h:(n==0)=false) (k:TL X ops rest ⟨(d,.m (.d (.int a (m.tmod n))))::sl,bx,H⟩ post):TL X ops (⟨some d,.binOp .rem b x y c,ty,pos,af,none⟩::rest) ⟨sl,bx,H⟩ post:=
 Qi W W e (Hh f g h) k
theorem q_{x y:Operand}{a b:Nat}{s u:ByteArray}(c:Nat.blt d X.n=true)(e:bw sl x=some (.m (.d (.str s))))(f:bw sl y=some (.m (.d (.str u))))(g:s.size+u.size<=9223372036854775807)(k:TL X ops rest ⟨(d,.m (.d (.str (s++u))))::sl,bx,H⟩ post):
  TL X ops (⟨some d,.binOp .add a x y b,ty,pos,af,none⟩::rest) ⟨sl,bx,H⟩ post:=
 Qi W W c (yY e f g) k
theorem Bt{t:Nat}{x:Operand}{cs:List D}{off:Nat}{v:D}[ht:cB X.P t](a:Nat.blt d X.n=true)(b:bw sl x=some (.m (.d (.bm cs off))))(c:cs[off]?=some v)(k:TL X ops rest ⟨(d,.m (.d v))::sl,bx,H⟩ post):
  TL X ops (⟨some d,.load t x,ty,pos,af,none⟩::rest) ⟨sl,bx,H⟩ post:=
 Qi W W a (yS b c) k
theorem jx{T:Nat}{x:Operand}{t off:Nat}{cs:List M}{m:M}[ht:cB X.P T](a:Nat.blt d X.n=true)(b:bw sl x=some (.loc t off))(c:get bx t=some cs)(e:cs[off]?=some m)(k:TL X ops rest ⟨(d,.m m)::sl,bx,H⟩ post):
  TL X ops (⟨some d,.load T x,ty,pos,af,none⟩::rest) ⟨sl,bx,H⟩ post:=
 Qi W W a (vi b c e) k
theorem Il{T n:Nat}{x:Operand}{t off:Nat}{cs PV:List M}{ds:List D}[ht:jM X.P T n](b:Nat.blt d X.n=true)(c:bw sl x=some (.loc t off))(e:get bx t=some cs)(a:sub cs off n=some PV)
  (f:kK PV=some ds) (k:TL X ops rest ⟨(d,.m (.d (.agg ds)))::sl,bx,H⟩ post):TL X ops (⟨some d,.load T x,ty,pos,af,none⟩::rest) ⟨sl,bx,H⟩ post:=
 Qi W W b (vj c e (avJ (sub_eq a).1) (by rw[(sub_eq a).2];exact f)) k
theorem bp{t e:Nat}{x:Operand}{v:D}{n:Nat}[ht:aZ X.P t e](a:Nat.blt d X.n=true)(b:bw sl x=some (.m (.d v)))(c:lB v=some n)
  (k:TL X ops rest ⟨(d,.m (.d (.int .i64 n)))::sl,bx,H⟩ post):TL X ops (⟨some d,.call ⟨.builtin .len,#[x],#[t]⟩,ty,pos,af,none⟩::rest) ⟨sl,bx,H⟩ post:=
 Qi W W a (yW b c) k
theorem aG{t e n:Nat}{x y:Operand}{rows:List (List D)}{r:List D}{a:IntKind}{i:Int}[ht:aZ X.P t e][l:bY X.P e n](b:Nat.blt d X.n=true)(c:bw sl x=some (.m (.d (.sl rows))))(f:bw sl y=some (.m (.d (.int a i))))
  (g:0<=i) (h:rows[i.toNat]?=some r) (j:r.length=n) (k:TL X ops rest ⟨(d,.m (.d (.bm r 0)))::sl,bx,H⟩ post):TL X ops (⟨some d,.indexAddr t x y,ty,pos,af,none⟩::rest) ⟨sl,bx,H⟩ post:=
 Qi W W b (yX c f g h j) k
theorem aE{f:Nat}{args:List Operand}{Sr:Array Nat}{ds:List D}{r:D}[hf:bz X.P f](h:PT X.P f ds (·= [r]))(a:Nat.blt d X.n=true)(b:iz sl args=some ds)(k:TL X ops rest ⟨(d,.m (.d r))::sl,bx,H⟩ post):
  TL X ops (⟨some d,.call ⟨.value (.func f),args.toArray,Sr⟩,ty,pos,af,none⟩::rest) ⟨sl,bx,H⟩ post:=
 Qi W W a (Bq (by rw[tv];exact b) h) k
theorem v_{x:Operand}{f:Nat}{a:List D}{args:List Operand}{Sr:Array Nat}{ds:List D}{r:D}[hf:bz X.P f](h:PT X.P f (ds++a) (·= [r]))(b:Nat.blt d X.n=true)(c:bw sl x=some (.m (.d (.fn f a))))(e:iz sl args=some ds)
  (k:TL X ops rest ⟨(d,.m (.d r))::sl,bx,H⟩ post):TL X ops (⟨some d,.call ⟨.value x,args.toArray,Sr⟩,ty,pos,af,none⟩::rest) ⟨sl,bx,H⟩ post:=
 TL.op W W b (Ik c (by rw[tv];exact e) h) (by rintro v g ⟨i,rfl,rfl,rfl⟩;exact k)
theorem pK{f:Nat}{args:List Operand}{Sr:Array Nat}{ms:List M}{q:M->Hp->Prop}[hf:bz X.P f](h:CT X.P f ms H q)(c:Nat.blt d X.n=true)(e:gD sl args=some ms)
  (k: ∀a b,q a b->TL X ops rest ⟨(d,.m a)::sl,bx,b⟩ post):
  TL X ops (⟨some d,.call ⟨.value (.func f),args.toArray,Sr⟩,ty,pos,af,none⟩::rest) ⟨sl,bx,H⟩ post:=
 TL.op W W c (w_ (by rw[oA];exact e) h) (by grind)
theorem k8{T:Nat}{parts:List (Nat×Operand)}{ps:List (Nat×Nat)}{z:List D}{a:List M}{ms:List (Nat×M)}{cs:List M}[ht:k7 X.P T ps z](c:Nat.blt d X.n=true)(e:iE sl parts=some ms)(f:uU z=some a)
  (hf:vk ps a ms=some cs) (h:kK cs=none) (k:TL X ops rest ⟨(d,.m (.agg cs))::sl,bx,H⟩ post):TL X ops (⟨some d,.build T parts.toArray,ty,pos,af,none⟩::rest) ⟨sl,bx,H⟩ post:=by
 have b:=xa (X:=X) (dst:=some d) (ty:=ty) (pos:=pos) (af:=af) (g:=none) (st:=⟨sl,bx,H⟩) (T:=T) (by rw[je];exact e) (by rw[<-q9 f];exact uC hf);have:pack cs= .agg cs:=by simp[pack,h]
 rw[this]at b;exact Qi W W c b k
theorem wa{st:St}{dst:Option Nat}{g:Option (Nat×Bool)}{T e n len:Nat}{parts:List (Nat×Operand)}{z:D}{ms:List (Nat×M)}{rows:List (List D)}[ht:aZ X.P T e][w:bY X.P e n][x:g_ X.P e z](b:Nat.blt 0 n=true)(p:Nat.beq (bu z).length n=true)
  (s:Nat.ble (len*n) 16777216=true) (q:eG st parts=some ms) (c:pI 0 ms=some rows) (u:Nat.beq rows.length len=true) (r:mO n rows=true):
  cQ X ⟨dst,.buildSlice T len parts.toArray,ty,pos,af,g⟩ st (dy (.m (.d (.sl rows))) st):=by
 have j:=auZ u;have f:=vl r;have t:rows.length=ms.length:=by
  have: ∀{ms:List (Nat×M)} {k:Nat} {rows:List (List D)},pI k ms=some rows->rows.length=ms.length:=by
   intro ms
   induction ms with
   |nil=>intro k rows a;simp[pI]at a;subst a;rfl
   |cons l v y=>
    intro k rows a;obtain⟨o,m⟩:=l;cases m with
    |d d=>
     simp only[pI]at a;cases h:Nat.beq o k with
     |false=>simp[h]at a
     |true=>
      simp only[h,avx]at a;split at a
      ·grind
      ·cases a
    |_=>simp[pI]at a
  exact this c
 obtain⟨i,A⟩:=y' (bO b) (k:=0) (pre:=[]) (Xx:=eO n len (bu z)) c f (by simp) (by simp[eO];rw[<-j,t]);simp only[avn]at i;exact y_ b (auZ p) s q i (by rw[<-j];exact tu f)
class zd(P:Program)(t:Nat)(cs:outParam (List M)):Prop where
 h: ∃z,yw P t z/\(bu z).map .d=cs
theorem DQ{T:Nat}{cs:List M}[i:zd X.P T cs](j:Nat.blt d X.n=true)(l:iH d sl=true)(k:TL X ops rest ⟨(d,.loc d 0)::sl,(d,cs)::bx,H⟩ post):
  TL X ops (⟨some d,.alloc T,ty,pos,af,none⟩::rest) ⟨sl,bx,H⟩ post:=by
 obtain⟨o,r,n⟩:=i.h;subst n;have f:=Bs (X:=X) (st:=⟨sl,bx,H⟩) (d:=d) (T:=T) (ty:=ty) (pos:=pos) (af:=af) (g:=none);have e:cY d sl=sl:=by
  have: ∀b:List (Nat×V),iH d b=true->cY d b=b:=by
   intro b
   induction b with
   |nil=>intro _;rfl
   |cons h b c=>
    obtain⟨k,v⟩:=h;cases v with
    |m m=>intro a;simp only[iH]at a;simp[cY,c a]
    |tl s t u w=>intro a;simp only[iH]at a;simp[cY,c a]
    |loc p q=>intro a;simp only[iH,avf,avW]at a;simp[cY,a.1,c a.2]
  exact this sl l
 simp only[e]at f;exact Qi W W j f k
theorem CH{T:Nat}{x:Operand}{m:M}{cs:List M}(h:Nat.blt d X.n=true)(i:iH d sl=true)(j:bw sl x=some (.m m))(l:iW m=some cs)(k:TL X ops rest ⟨(d,.loc d 0)::sl,(d,cs)::bx,H⟩ post):
  TL X ops (⟨some d,.box T x,ty,pos,af,none⟩::rest) ⟨sl,bx,H⟩ post:=by
 obtain⟨n,o⟩:=c7 l;have f:=JK (X:=X) (st:=⟨sl,bx,H⟩) (d:=d) (T:=T) (ty:=ty) (pos:=pos) (af:=af) (g:=none) j o;have e:cY d sl=sl:=by
  have: ∀b:List (Nat×V),iH d b=true->cY d b=b:=by
   intro b
   induction b with
   |nil=>intro _;rfl
   |cons x b c=>
    obtain⟨k,v⟩:=x;cases v with
    |m m=>intro a;simp only[iH]at a;simp[cY,c a]
    |tl r s t u=>intro a;simp only[iH]at a;simp[cY,c a]
    |loc p q=>intro a;simp only[iH,avf,avW]at a;simp[cY,a.1,c a.2]
  exact this sl i
 simp only[e,n]at f;exact Qi W W h f k
theorem fD{T n:Nat}{x y:Operand}{t off:Nat}{cs a PV:List M}{m:M}[j:bY X.P T n](b:bw sl x=some (.loc t off))(c:bw sl y=some (.m m))(d:get bx t=some cs)(e:iW m=some a)
  (f:Nat.beq a.length n=true) (g:wr cs off a=some PV) (k:TL X ops rest ⟨sl,(t,PV)::bx,H⟩ post):TL X ops (⟨none,.store T x y,ty,pos,af,none⟩::rest) ⟨sl,bx,H⟩ post:=by
 obtain⟨h,i⟩:=c7 e;subst h;exact TL.Hf W W (y8 b c d (auZ f) i (tt g)) k
theorem Inv.o5{P9:List (Nat×V)}{Qr:List (Nat×List M)}{a:Act}{w:World}(h:Inv X ⟨sl,bx,H⟩ a w)(o: ∀c v,get P9 c=some v->get sl c=some v)
  (p: ∀c,get Qr c=get bx c):Inv X ⟨P9,Qr,H⟩ a w:=by
 obtain⟨l,i,j,d⟩:=h;refine⟨l,i,j,d.hH,d.defers,d.size,λc v h=>d.slot c v (o c v h),λc g h=>d.box c g (by grind),λc m g q h t=>d.sP c m g q (by grind) (by grind),
  λc g h=>d.th c g (by grind),λc g h=>d.tj c g (by grind),?_,d.mono,d.cy⟩
 have e: ∀b f,o8 X.kL i Qr b f↔o8 X.kL i bx b f:=by intro b f;simp[o8,p]
 exact⟨d.hinv.obj,d.hinv.inj,λb f=>by rw[e];exact d.hinv.own b f,λn r j s f k=>d.hinv.sep n r j s f ((e _ _).1 k),λb f k=>d.hinv.nt b f ((e _ _).1 k)⟩
def keeps(sl P9:List (Nat×V)):Prop:=(P9.map λp=>get sl p.1)=P9.map λp=>some p.2
theorem kc{sl r:List (Nat×V)}{t:Nat}{v:V}(h:get sl t=some v)(k:keeps sl r):keeps sl ((t,v)::r):=by
 show get sl t::_=some v::_;rw[h];exact av3 _ k
theorem iI{sl:List (Nat×V)} : ∀{P9:List (Nat×V)},keeps sl P9-> ∀t v,get P9 t=some v->get sl t=some v
 | [],_,t,v,a=>by simp[get]at a
 |(f,g)::h,b,t,v,a=>by
  injection b with c d
  rcases bT a with⟨rfl,rfl⟩|⟨i,e⟩
  ·exact c
  ·exact iI d t v e
end rules
theorem TC.o5{X:bJ}{c:Code}{sl P9:List (Nat×V)}{bx:List (Nat×List M)}{H:Hp}{post:Exit->St->Prop}(h:TC X c ⟨P9,bx,H⟩ post)(d:keeps sl P9):TC X c ⟨sl,bx,H⟩ post:=
 λa b e=>h a b (e.o5 (iI d) (λ_=>rfl))
theorem TC.JN{X:bJ}{c:Code}{st:St}{post:Exit->St->Prop}(g:Nat->St->Prop)(l:Nat)(j:St)(m:g l j)(n: ∀a b,Inv X st a b->Inv X j a b)
  (u: ∀f d,g f d->TC X c d (after post λk=> ∃h i,h<f/\g h i/\ ∀a b,Inv X k a b->Inv X i a b)):TC X (.loop c) st post:=by
 intro a b o;refine wp_loop_ghost (λf a b=> ∃d,g f d/\Inv X d a b) l ⟨j,m,(n a b o)⟩ ?_;rintro f a b ⟨d,p,q⟩;refine wp_mono (u f d p a b q) ?_;intro e v w ⟨k,h3,h4⟩;cases e with
 |normal=>obtain⟨h,i,r,s,t⟩:=h3;exact⟨h,r,i,s,t _ _ h4⟩
 |_=>exact⟨k,h3,h4⟩
structure Ef where
 d:Option Nat
 v:V
 rb:List Nat
 wb:List (Nat×List M)
 nw:Option Nat
 rh:Bool
 wh:Option Hp
def Ef.app(e:Ef)(st:St):St:=
 ⟨match e.d with|some d=>(d,e.v)::st.sl|none=>st.sl,e.wb++st.bx,match e.wh with|some h=>h|none=>st.H⟩
def JO(X:bJ)(ops:Array Oper)(o:Oper)(st PD:St):Prop:=
 ∀a w,Inv X st a w-> ∀(K:Act->World->Prop) (Q:Exit->Act->World->Prop),(∀a' w',Inv X PD a' w'->K a' w')->
  if Region.wanted o (yielded ops a.tmps)then o.wp X.P a w K Q else K (a.put o.dst undef) w
structure Ag(ops:Array Oper)(o:Oper)(e:Ef)(st PO:St):Prop where
 sl: ∀t∈o.looksAt ops,get PO.sl t=get st.sl t
 bx: ∀t∈e.rb++e.wb.map (·.1),get PO.bx t=get st.bx t
 H:(e.rh||e.wh.isSome)=true->PO.H=st.H
 nw: ∀d,e.nw=some d-> ∀t o,get PO.sl t≠some (.loc d o)
def mg(X:bJ)(ops:Array Oper)(o:Oper)(e:Ef)(st:St):Prop:= ∀PO,Ag ops o e st PO->JO X ops o PO (e.app PO)
inductive qh(X:bJ)(ops:Array Oper):List Oper->St->List Ef->St->Prop where
 |nil (st:St):qh X ops [] st [] st
 |cons {o:Oper} {os:List Oper} {st PD:St} {e:Ef} {es:List Ef} (h:mg X ops o e st) (hd:e.d=o.dst) (k:qh X ops os (e.app st) es PD):qh X ops (o::os) st (e::es) PD
def TF(X:bJ)(ops:Array Oper)(l:List Oper)(st:St)(post:List Ef->St->Prop):Prop:= ∃es PD,qh X ops l st es PD/\post es PD
theorem TF.nil{X:bJ}{ops:Array Oper}{st:St}{post:List Ef->St->Prop}(h:post [] st):TF X ops [] st post:=⟨[],st,.nil st,h⟩
theorem TF.cons{X:bJ}{ops:Array Oper}{o:Oper}{rest:List Oper}{st:St}{e:Ef}{post:List Ef->St->Prop}(h:mg X ops o e st)(c:e.d=o.dst)
  (k:TF X ops rest (e.app st) λa b=>post (e::a) b):TF X ops (o::rest) st post:=by
 obtain⟨a,d,f,g⟩:=k;exact⟨e::a,d,.cons h c f,g⟩
def jU(ops:List Oper):List (List Nat):=
 ops.foldl (λacc o=>acc++ [(o.after.toList.filter (Region.binds .any)).flatMap λe=>e.on::acc.getD e.on []]) []
def has(l:List Nat)(i:Nat):Bool:=l.any λx=>Nat.beq x i
def slotsOf(ops:Array Oper)(o:Oper):List Nat:=o.looksAt ops++o.dst.toList
def dU(ops:Array Oper)(x y:Oper)(e f:Ef):Bool:=
 (match x.dst with|some d=>has (slotsOf ops y) d|none=>false)||(match y.dst with|some d=>has (slotsOf ops x) d|none=>false)||
 (e.wb.any λp=>has (f.rb++f.wb.map (·.1)) p.1)||(f.wb.any λp=>has (e.rb++e.wb.map (·.1)) p.1)||
 (e.wh.isSome&&(f.rh||f.wh.isSome))||(f.wh.isSome&&e.rh)||
 (match e.nw,f.v with|some d,.loc u _=>Nat.beq u d|_,_=>false)
def rP(e f:Ef):Bool:=match f.nw,e.v with
 |some d,.loc u _=>Nat.beq u d
 |_,_=>false
def tw:Nat->List Oper->Bool
 |_,[]=>true
 |j,o::r=>(o.after.toList.all λe=> !Region.binds .any e||Nat.blt e.on j)&&tw (j+1) r
def jb(ops:Array Oper)(x:Oper)(e:Ef)(i:Nat):List Oper->List Ef->List (List Nat)->Bool
 |y::ys,f::fs,b::bs=>(!dU ops x y e f||has b i)&& !rP e f&&jb ops x e i ys fs bs
 |_,_,_=>true
def jV(ops:Array Oper):Nat->List Oper->List Ef->List (List Nat)->Bool
 |i,x::xs,e::es,b::bs=>jb ops x e i xs es bs&&jV ops (i+1) xs es bs
 |_,_,_,_=>true
def jW(sl:List (Nat×V)):List Ef->Bool
 | []=>true
 |e::es=>(match e.nw with|some d=>iH d sl|none=>true)&&jW sl es
def gL(ops:List Oper)(sl:List (Nat×V))(es:List Ef):Bool:=
 tw 0 ops&&jV ops.toArray 0 ops es (jU ops)&&jW sl es
theorem gr{l:List Nat}{i:Nat} :has l i=true↔i∈l:=by
 unfold has;rw[awG];constructor
 ·rintro⟨d,b,c⟩;rw[<-auZ c];exact b
 ·intro a;exact⟨i,a,aw9 i⟩
def S(st:St)(es:List Ef)(PA:Nat->Bool):Nat->St
 |0=>st
 |k+1=>match es[k]? with
  |some e=>bif PA k then e.app (S st es PA k)else S st es PA k
  |none=>S st es PA k
structure Part(α:Type)(es:List Ef)where
 r:St->α
 W:Nat->Bool
 c:Nat->α
 cK: ∀k e s,es[k]?=some e->W k=false->r (e.app s)=r s
 write: ∀k e s,es[k]?=some e->W k=true->r (e.app s)=c k
section parts
variable{α:Type}{es:List Ef}(p:Part α es){st:St}
theorem nu(L a:Nat->Bool): ∀n,(∀k,k<n->p.W k=true->L k=a k)->p.r (S st es L n)=p.r (S st es a n)
 |0,_=>rfl
 |n+1,f=>by
  have d:=nu L a n (λk h=>f k (by omega));simp only[S];cases c:es[n]? with
  |none=>exact d
  |some e=>
   simp only;cases b:p.W n with
   |false=>
    cases i:L n<;>cases g:a n<;>simp only[avx,aws]<;>(try rw[p.cK n e _ c b])<;>(try rw[p.cK n e _ c b])<;>exact d
   |true=>
    have:=f n (by omega) b;rw[this];cases g:a n<;>simp only[avx,aws]
    ·exact d
    ·rw[p.write n e _ c b,p.write n e _ c b]
theorem rQ(L:Nat->Bool)(i:Nat): ∀n,i<=n->(∀k,i<=k->k<n->p.W k=true->L k=false)->p.r (S st es L n)=p.r (S st es L i)
 |0,f,_=>by
  have:i=0:=by omega
  subst this;rfl
 |n+1,f,b=>by
  by_cases e:i=n+1
  ·subst e;rfl
  ·have a:=rQ L i n (by omega) (λk g j=>b k g (by omega));simp only[S];cases h:es[n]? with
   |none=>exact a
   |some e=>
    simp only;cases c:L n with
    |false=>exact a
    |true=>
     simp only[avx];cases d:p.W n with
     |false=>rw[p.cK n e _ h d];exact a
     |true=>rw[b n (by omega) (by omega) d]at c;cases c
theorem mP(L:Nat->Bool)(i m:Nat)(hi:i<=m)(b: ∀a,a<i->p.W a=true->L a=true)(c: ∀a,i<=a->a<m->p.W a=true->L a=false):
  p.r (S st es L m)=p.r (S st es (λ_=>true) i):=
 (rQ p L i m hi c).trans (nu p L _ i λa d e=>b a d e)
theorem tz(L:Nat->Bool)(i m:Nat)(hi:i<m)(e:Ef)(b:es[i]?=some e)(h:L i=false)(d:p.W i=true-> ∀k,i<k->k<m->p.W k=true->L k=false):
  p.r (S st es (λk=>if k=i then true else L k) m)=p.r (e.app (S st es L m)):=by
 cases a:p.W i with
 |true=>
  rw[p.write i e _ b a];have:=rQ p (st:=st) (λk=>if k=i then true else L k) (i+1) m (by omega) (λk j f g=>by
   have:k≠i:=by omega
   simp[this];exact d a k (by omega) f g)
  rw[this];simp only[S,b,awr,avx];exact p.write i e _ b a
 |false=>
  rw[p.cK i e _ b a];exact nu p _ _ m λk l c=>by
   have:k≠i:=by rintro rfl;rw[a]at c;cases c
   simp[this]
end parts
def k9(es:List Ef)(t:Nat):Part (Option V) es where
 r s:=get s.sl t
 W k:=match es[k]? with
  |some e=>match e.d with|some d=>Nat.beq d t|none=>false
  |none=>false
 c k:=match es[k]? with|some e=>some e.v|none=>none
 cK k e s he hw:=by
  simp only[he]at hw;unfold Ef.app;cases hd:e.d with
  |none=>rfl
  |some d=>
   simp only[hd]at hw;have:d≠t:=by rintro rfl;simp at hw
   simp[bQ,this]
 write k e s he hw:=by
  simp only[he]at hw⊢;unfold Ef.app;cases hd:e.d with
  |none=>simp[hd]at hw
  |some d=>
   simp only[hd]at hw;have:=auZ hw;subst this;simp[bQ]
theorem get_append{a:Type}(l r:List (Nat×a))(t:Nat):get (l++r) t=match get l t with|some v=>some v|none=>get r t:=by
 induction l with
 |nil=>rfl
 |cons b l d=>
  obtain⟨c,v⟩:=b;rw[avM,bQ,bQ];by_cases e:c=t
  ·simp[e]
  ·simp[e,d]
theorem j9{b:Type}(l:List (Nat×b))(t:Nat):(get l t).isSome=has (l.map (·.1)) t:=by
 induction l with
 |nil=>rfl
 |cons c l f=>
  obtain⟨a,v⟩:=c;rw[bQ];by_cases e:a=t
  ·subst e;simp[has]
  ·have:Nat.beq a t=false:=by rw[<-avX];intro d;exact e (auZ d)
   simp only[e,awi,f,has,avm,List.any_cons,this,Bool.false_or]
def mQ(es:List Ef)(t:Nat):Part (Option (List M)) es where
 r s:=get s.bx t
 W k:=match es[k]? with
  |some e=>has (e.wb.map (·.1)) t
  |none=>false
 c k:=match es[k]? with|some e=>get e.wb t|none=>none
 cK k e s he hw:=by
  simp only[he]at hw;have h:=j9 e.wb t;rw[hw]at h;show get (e.wb++s.bx) t=_;rw[get_append];cases hg:get e.wb t with
  |none=>rfl
  |some v=>rw[hg]at h;cases h
 write k e s he hw:=by
  simp only[he]at hw⊢;have h:=j9 e.wb t;rw[hw]at h;show get (e.wb++s.bx) t=_;rw[get_append];cases hg:get e.wb t with
  |none=>rw[hg]at h;cases h
  |some v=>rfl
def uD(es:List Ef):Part Hp es where
 r s:=s.H
 W k:=match es[k]? with
  |some e=>e.wh.isSome
  |none=>false
 c k:=match es[k]? with|some e=>(match e.wh with|some h=>h|none=>[])|none=>[]
 cK k e s he hw:=by
  simp only[he]at hw;unfold Ef.app;cases hh:e.wh with
  |none=>rfl
  |some h=>rw[hh]at hw;cases hw
 write k e s he hw:=by
  simp only[he]at hw⊢;unfold Ef.app;cases hh:e.wh with
  |none=>rw[hh]at hw;cases hw
  |some h=>rfl
theorem o9: ∀(ops:List Oper),(jU ops).length=ops.length:=by
 have: ∀(ops:List Oper) (a:List (List Nat)),(ops.foldl (λa b=>a++ [(b.after.toList.filter (Region.binds .any)).flatMap λe=>e.on::a.getD e.on []]) a).length=a.length+ops.length:=by
  intro ops
  induction ops with
  |nil=>intro a;simp
  |cons b ops c=>intro a;rw[avZ,c];simp;omega
 intro ops;unfold jU;rw[this];simp
theorem Bu{ops:List Oper}{j i:Nat}{o:Oper}{b:List Nat}(q:ops[j]?=some o)(f:(jU ops)[j]?=some b)(hi:i∈b):
  ∃e∈o.after.toList,Region.binds .any e=true/\(e.on=i\/ ∃b',(jU ops)[e.on]?=some b'/\e.on<j/\i∈b'):=by
 have t: ∀(ops:List Oper) (a:List (List Nat)) (j:Nat) (o:Oper) (b:List Nat),ops[j]?=some o->
   (ops.foldl (λa o=>a++ [(o.after.toList.filter (Region.binds .any)).flatMap λe=>e.on::a.getD e.on []]) a)[a.length+j]?=some b->
   ∃g:List (List Nat),g.length=a.length+j/\(∀c,c<a.length+j->g[c]?=(ops.foldl (λa o=>a++ [(o.after.toList.filter (Region.binds .any)).flatMap λe=>e.on::a.getD e.on []]) a)[c]?)/\
    b=(o.after.toList.filter (Region.binds .any)).flatMap λe=>e.on::g.getD e.on []:=by
  have pre: ∀(ops:List Oper) (a:List (List Nat)) (c:Nat),c<a.length->
    (ops.foldl (λa o=>a++ [(o.after.toList.filter (Region.binds .any)).flatMap λe=>e.on::a.getD e.on []]) a)[c]?=a[c]?:=by
   intro ops
   induction ops with
   |nil=>intro a c _;rfl
   |cons o ops h=>
    intro a c l;rw[avZ,h _ c (by simp;omega),auL l]
  intro ops
  induction ops with
  |nil=>intro a j o b d;simp at d
  |cons p ops h=>
   intro a j o b d f;cases j with
   |zero=>
    simp at d;subst d;rw[avZ,pre _ _ _ (by simp)]at f;simp at f;refine⟨a,by simp,?_,f.symm⟩;intro c l;rw[avZ,pre _ _ _ (by simp;omega),auL (by omega)]
   |succ j=>
    rw[avZ]at f⊢;have e:a.length+(j+1)=(a++ [(p.after.toList.filter (Region.binds .any)).flatMap λe=>e.on::a.getD e.on []]).length+j:=by simp;omega
    rw[e]at f⊢;exact h _ j o b (by simpa using d) f
 obtain⟨g,m,r,s⟩:=t ops [] j o b q (by simpa [jU] using f);subst s;rw[List.mem_flatMap]at hi;obtain⟨e,k,hi⟩:=hi;rw[awP]at k;refine⟨e,k.1,k.2,?_⟩;simp only[auX]at hi;rcases hi with hi|hi
 ·exact .inl hi.symm
 ·right;have n:e.on<g.length:=by
   rcases auM e.on g.length with d|d
   ·exact d
   ·simp[auP d]at hi
  have:g[e.on]?=(jU ops)[e.on]?:=by
   have:=r e.on (by simp at m⊢;omega);simpa [jU] using this
  refine⟨g[e.on],by rw[<-this];simp[n],by simp at m;omega,?_⟩;simpa [List.getD,n] using hi
theorem kO{n:Array Oper}{x:Oper}{e:Ef}{i:Nat} : ∀{h:List Oper} {k:List Ef} {l:List (List Nat)},jb n x e i h k l=true->
  ∀(j:Nat) y f b,h[j]?=some y->k[j]?=some f->l[j]?=some b->(dU n x y e f=true->i∈b)/\rP e f=false
 | [],_,_,_,j,y,f,b,a,_,_=>by simp at a
 |_::_,[],_,_,j,y,f,b,_,c,_=>by simp at c
 |_::_,_::_,[],_,j,y,f,b,_,_,d=>by simp at d
 |p::h,q::k,r::l,g,j,y,f,b,a,c,d=>by
  simp only[jb,avf,awD,avW]at g;cases j with
  |zero=>
   simp at a c d;subst a;subst c;subst d;refine⟨λo=> ?_,g.1.2⟩;rcases g.1.1 with m|m
   ·rw[m]at o;cases o
   ·exact gr.1 m
  |succ j=>simp at a c d;exact kO g.2 j y f b a c d
theorem lI{m:Array Oper} : ∀{xs:List Oper} {es:List Ef} {l:List (List Nat)} {n:Nat},jV m n xs es l=true->
  ∀(i j:Nat) x e y f b,i<j->xs[i]?=some x->es[i]?=some e->xs[j]?=some y->es[j]?=some f->l[j]?=some b->(dU m x y e f=true->n+i∈b)/\rP e f=false
 | [],_,_,n,_,i,j,x,e,y,f,b,_,a,_,_,_,_=>by simp at a
 |_::_,[],_,n,_,i,j,x,e,y,f,b,_,_,c,_,_,_=>by simp at c
 |_::_,_::_,[],n,_,i,j,x,e,y,f,b,_,_,_,_,_,d=>by simp at d
 |o::xs,p::es,q::l,n,k,i,j,x,e,y,f,b,r,a,c,g,h,d=>by
  simp only[jV,avf]at k;cases j with
  |zero=>omega
  |succ j=>
   cases i with
   |zero=>
    simp at a c g h d;subst a;subst c;exact kO k.1 j y f b g h d
   |succ i=>
    simp at a c g h d;have:=lI k.2 i j x e y f b (by omega) a c g h d;rw[show n+(i+1)=n+1+i by omega];exact this
theorem qH: ∀{ops:List Oper} {n:Nat},tw n ops=true-> ∀(j:Nat) o,ops[j]?=some o-> ∀e∈o.after.toList,Region.binds .any e=true->e.on<n+j
 | [],n,_,j,o,a,_,_,_=>by simp at a
 |g::h,n,b,j,o,a,e,f,c=>by
  simp only[tw,avf,av5,awD,avW]at b;cases j with
  |zero=>
   simp at a;subst a;rcases b.1 e f with d|d
   ·rw[d]at c;cases c
   ·have:=bO d;omega
  |succ j=>simp at a;have:=qH b.2 j o a e f c;omega
theorem gE(st:St)(es:List Ef): ∀k,S st es (λ_=>true) k=(es.take k).foldl (λs e=>e.app s) st
 |0=>rfl
 |k+1=>by
  simp only[S];cases b:es[k]? with
  |none=>
   have d:es.length<=k:=by rcases auM k es.length with a|a;simp[auO a]at b;exact a
   rw[gE st es k,avK d,avK (by omega)]
  |some e=>
   simp only[avx];rw[gE st es k];have c:k<es.length:=by rcases auM k es.length with a|a;exact a;simp[auP a]at b
   rw[au1 c,axg];have:es[k]=e:=by simpa [auO c] using b
   rw[this];rfl
def qd:Nat->(Nat->Bool)->Nat
 |0,_=>0
 |k+1,f=>qd k f+(bif f k then 0 else 1)
theorem ze: ∀{m:Nat} {f g:Nat->Bool},(∀k,k<m->f k=g k)->qd m f=qd m g
 |0,_,_,_=>rfl
 |m+1,f,g,a=>by simp only[qd];rw[ze (λk b=>a k (by omega)),a m (by omega)]
theorem uE: ∀{m:Nat} {f:Nat->Bool},qd m f=0-> ∀k,k<m->f k=true
 |0,f,_,k,c=>by omega
 |m+1,f,a,k,c=>by
  simp only[qd]at a;cases b:f m with
  |false=>simp[b]at a
  |true=>
   simp[b]at a;by_cases e:k=m
   ·rw[e];exact b
   ·exact uE a k (by omega)
theorem zf: ∀{m:Nat} {f:Nat->Bool},0<qd m f-> ∃i,i<m/\f i=false/\ ∀k,k<i->f k=true
 |0,f,a=>by simp[qd]at a
 |m+1,f,a=>by
  by_cases d:0<qd m f
  ·obtain⟨i,b,e,g⟩:=zf d;exact⟨i,by omega,e,g⟩
  ·have b:qd m f=0:=by omega
   simp only[qd,b]at a;cases c:f m with
   |false=>exact⟨m,by omega,c,uE b⟩
   |true=>simp[c]at a
theorem zg: ∀{m:Nat} {f:Nat->Bool} {i:Nat},i<m->f i=false->qd m (λk=>if k=i then true else f k)+1=qd m f
 |0,f,i,b,_=>by omega
 |m+1,f,i,b,a=>by
  simp only[qd];by_cases e:i=m
  ·subst e;have:qd i (λk=>if k=i then true else f k)=qd i f:=ze λk d=>by simp[show k≠i by omega]
   simp only[this,awr,a,avx,aws,av9]
  ·have:=zg (m:=m) (f:=f) (i:=i) (by omega) a;have c:m≠i:=by omega
   simp only[c,awi];omega
def CI(X:bJ)(I:Hp->Prop)(ops:Array Oper)(o:Oper)(e:Ef)(st:St):Prop:= ∀PO,Ag ops o e st PO->I PO.H->JO X ops o PO (e.app PO)
inductive vm(X:bJ)(I:Hp->Prop)(ops:Array Oper):List Oper->St->List Ef->St->Prop where
 |nil (st:St):vm X I ops [] st [] st
 |cons {o:Oper} {os:List Oper} {st PD:St} {e:Ef} {es:List Ef} (h:CI X I ops o e st) (hd:e.d=o.dst) (k:vm X I ops os (e.app st) es PD):vm X I ops (o::os) st (e::es) PD
def jJ(X:bJ)(I:Hp->Prop)(ops:Array Oper)(l:List Oper)(st:St)(post:List Ef->St->Prop):Prop:= ∃es PD,vm X I ops l st es PD/\post es PD
theorem vm.spec{X:bJ}{c:Hp->Prop}{d:Array Oper}{l:List Oper}{st f:St}{es:List Ef}(h:vm X c d l st es f):
  es.length=l.length/\f=es.foldl (λs e=>e.app s) st/\ ∀(i:Nat) o e,l[i]?=some o->es[i]?=some e->CI X c d o e ((es.take i).foldl (λs e=>e.app s) st)/\e.d=o.dst:=by
 induction h with
 |nil st=>exact⟨W,W,by simp⟩
 |cons h g p j=>
  obtain⟨k,m,n⟩:=j;refine⟨by simp[k],m,λi o e a b=> ?_⟩;cases i with
  |zero=>simp at a b;subst a;subst b;exact⟨h,g⟩
  |succ i=>simp at a b;exact n i o e a b
def we(ops:List Oper)(k:Nat):Bool:=match(jU ops)[k]? with
 |some b=>(List.range ops.length).all λi=>Nat.beq i k||has b i
 |none=>false
theorem DR{ops:List Oper}{k:Nat}(h:we ops k=true)(i:Nat)(hi:i<ops.length)(c:i≠k): ∃b,(jU ops)[k]?=some b/\i∈b:=by
 unfold we at h;split at h
 ·rename_i b d;rw[av5]at h;have:=h i (awp.2 hi);rw[awD]at this;rcases this with a|a
  ·exact absurd (auZ a) c
  ·exact⟨b,d,gr.1 a⟩
 ·cases h
def oa(I:Hp->Prop)(ops:List Oper):Nat->List Ef->Prop
 |_,[]=>True
 |k,e::r=>(match e.wh with|none=>True|some h=>I h\/we ops k=true)/\oa I ops (k+1) r
theorem oa.M9{b:Hp->Prop}{ops:List Oper} : ∀{es:List Ef} {n:Nat},oa b ops n es-> ∀(k:Nat) f,es[k]?=some f-> ∀h,f.wh=some h->b h\/we ops (n+k)=true
 | [],_,_,k,f,a,_,_=>by simp at a
 |g::i,n,⟨c,e⟩,k,f,a,h,d=>by
  cases k with
  |zero=>simp at a;subst a;rw[d]at c;exact c
  |succ k=>
   simp at a;have:=e.M9 k f a h d
   rwa [show n+1+k=n+(k+1) by omega]at this
theorem oa.mem{a:Hp->Prop}{ops:List Oper}{es:List Ef}(h:oa a ops 0 es)(k:Nat)(f:Ef)(b:es[k]?=some f)(H:Hp)(c:f.wh=some H):a H\/we ops k=true:=by
 have:=h.M9 k f b H c
 rwa [awc]at this
theorem DS{st:St}{es:List Ef}(a:Hp->Prop)(g:a st.H){L:Nat->Bool}(h: ∀(d:Nat) f b,es[d]?=some f->L d=true->f.wh=some b->a b): ∀n,a (S st es L n).H
 |0=>g
 |n+1=>by
  simp only[S];have c:=DS a g h n;cases i:es[n]? with
  |none=>exact c
  |some e=>
   simp only;cases j:L n with
   |false=>exact c
   |true=>
    simp only[avx,Ef.app];cases k:e.wh with
    |none=>exact c
    |some b=>exact h n e b i j k
theorem TC.FJ{X:bJ}{id:Nat}{ops:List Oper}{st:St}{post:Exit->St->Prop}(ac:Hp->Prop)(i6:ac st.H)(hm:X.P.follows .mixedOrders=true)
  (h:jJ X ac ops.toArray ops st λg x=>gL ops st.sl g=true/\oa ac ops 0 g/\post .normal x):TC X (.region id ops.toArray true) st post:=by
 obtain⟨g,x,Ue,PG,i7,QF⟩:=h;obtain⟨wd,i8,Ra⟩:=Ue.spec;simp only[gL,avf]at PG;obtain⟨⟨i9,Z6⟩,Z7⟩:=PG;have hE:=qH i9;have hP:=lI Z6;have mt:x=S st g (λ_=>true) ops.length:=by rw[gE,avK (by omega),i8]
 have Vw: ∀(a:Nat) e,g[a]?=some e-> ∃s b,ops[a]?=some s/\(jU ops)[a]?=some b/\e.d=s.dst/\a<ops.length:=by
  intro a e r;have p:a<g.length:=by rcases auM a g.length with h|h;exact h;simp[auP h]at r
  have E:ops[a]?=some ops[a]:=by simp[show a<ops.length by omega]
  have t:a<(jU ops).length:=by rw[o9];omega
  exact⟨ops[a],(jU ops)[a],E,by simp[t],(Ra a _ e E r).2,by omega⟩
 have Z8: ∀(a:Nat) e d,g[a]?=some e->e.nw=some d->iH d st.sl=true:=by
  have: ∀(K:List Ef),jW st.sl K=true-> ∀(a:Nat) e d,K[a]?=some e->e.nw=some d->iH d st.sl=true:=by
   intro K
   induction K with
   |nil=>intro _ a e d h;simp at h
   |cons j K L=>
    intro z a e d r N;simp only[jW,avf]at z;cases a with
    |zero=>simp at r;subst r;simpa [N] using z.1
    |succ a=>simp at r;exact L z.2 a e d r N
  exact this g Z7
 intro Q U V;refine wp_region_any hm ?_;have t9: ∀(R:Nat) (i:Array Bool) (Q:Act) (U:World),i.size=ops.length->qd ops.length (λa=>i.getD a false)=R->
   (∀D b,i.getD D false=true->(jU ops)[D]?=some b-> ∀c∈b,i.getD c false=true)->
   Inv X (S st g (λa=>i.getD a false) ops.length) Q U->
   wpAny X.P .any ops.toArray (λe B C=> ∃x,post e x/\Inv X x B C) R i Q U:=by
  intro R
  induction R with
  |zero=>
   intro i Q U Qt Y QT d6;have hz:=uE Y;refine⟨?_,x,QF,?_⟩
   ·unfold Region.ready;rw[axp];intro c V;simp at V;have u:=hz c V;have w:c<i.size:=by omega
    simp[w]at u;simp[w,u]
   ·have e:S st g (λa=>i.getD a false) ops.length=x:=by
     rw[mt];have: ∀l,l<=ops.length->S st g (λa=>i.getD a false) l=S st g (λ_=>true) l:=by
      intro l
      induction l with
      |zero=>intro _;rfl
      |succ l L=>
       intro hn;simp only[S,L (by omega),hz l (by omega)]
     exact this _ (auK _)
    rw[<-e];exact d6
  |succ R L=>
   intro i Q U Qt Y QT d6;have gc: ∀c,c∈Region.ready .any ops.toArray i↔c<ops.length/\i.getD c true=false/\ ∃s,ops[c]?=some s/\ ∀e∈s.after.toList,Region.binds .any e=true->i.getD e.on false=true:=by
    intro c;unfold Region.ready;rw[awP];simp only[awp,List.size_toArray,avf,avW,axu];constructor
    ·rintro⟨u,w,F⟩;refine⟨u,w,ops[c],by simp[u],?_⟩;simp[u]at F;intro e r t;have Vy:e∈ops[c].after:=by simpa using r
     obtain⟨l,hn,rfl⟩:=axv.1 Vy;rcases F l hn with O|O
     ·rw[O]at t;cases t
     ·simpa using O
    ·rintro⟨u,w,s,F,O⟩;refine⟨u,w,?_⟩;have:ops[c]=s:=by simpa [u] using F
     simp[u,this];intro l hn;cases t:Region.binds .any s.after[l]with
     |false=>exact .inl rfl
     |true=>right;simpa using O s.after[l] (by simp) t
   refine⟨?_,?_⟩
   ·intro hr;obtain⟨c,u,w,F⟩:=zf (m:=ops.length) (f:= λa=>i.getD a false) (by omega);have:c∈Region.ready .any ops.toArray i:=by
     rw[gc];have SJ:c<i.size:=by omega
     refine⟨u,by simp[SJ]at w⊢;exact w,ops[c],by simp[u],?_⟩;intro e r t;have:=hE c ops[c] (by simp[u]) e r t;exact F e.on (by omega)
    rw[hr]at this;cases this
   ·intro c pm;obtain⟨Z,Th,s,E,Z9⟩:=(gc c).1 pm;have SJ:c<i.size:=by omega
    have A:i.getD c false=false:=by simp[SJ]at Th⊢;exact Th
    have qr:c<g.length:=by omega
    obtain⟨e,r⟩: ∃e,g[c]?=some e:=⟨g[c],by simp[qr]⟩;have Xv:c<(jU ops).length:=by rw[o9];exact Z
    obtain⟨bi,Ux⟩: ∃b,(jU ops)[c]?=some b:=⟨(jU ops)[c],by simp[Xv]⟩;have f9: ∀a,a∈bi->i.getD a false=true:=by
     intro a p;obtain⟨ed,u,w,F⟩:=Bu E Ux p;have O:=Z9 ed u w;rcases F with F|⟨b',h5,_,h6⟩
     ·rw[<-F];exact O
     ·exact QT _ b' O h5 a h6
    have d7: ∀(a:Nat) f,a<c->g[a]?=some f-> ∀j,ops[a]?=some j->dU ops.toArray j s f e=true->i.getD a false=true:=by
     intro a f p o j q Y;have:=(hP a c j f s e bi p q o E r Ux).1 Y;simp at this;exact f9 a this
    have T: ∀(a:Nat) f,c<a->g[a]?=some f-> ∀j,ops[a]?=some j->dU ops.toArray s j e f=true->i.getD a false=false:=by
     intro a f p o j q Y;obtain⟨_,b,_,t,_,_⟩:=Vw a f o;have:=(hP c a s e j f b p E r q o t).1 Y;simp at this;cases z:i.getD a false with
     |false=>rfl
     |true=>rw[QT a b z t c this]at A;cases A
    obtain⟨WR,v6⟩:=Ra c s e E r;have rg:(g.take c).foldl (λge e=>e.app ge) st=S st g (λ_=>true) c:=(gE st g c).symm;rw[rg]at WR;have T6: ∀k a,(k9 g k).W a=true-> ∃f j,g[a]?=some f/\ops[a]?=some j/\f.d=some k/\j.dst=some k:=by
     intro k a n;simp only[k9]at n;split at n
     ·rename_i f o;split at n
      ·rename_i d N;have:=auZ n;subst this;obtain⟨j,b,q,_,P,_⟩:=Vw a f o;exact⟨f,j,o,q,N,by rw[<-P];exact N⟩
      ·cases n
     ·cases n
    have Ve: ∀k a,(mQ g k).W a=true-> ∃f j,g[a]?=some f/\ops[a]?=some j/\k∈f.wb.map (·.1):=by
     intro k a n;simp only[mQ]at n;split at n
     ·rename_i f o;obtain⟨j,b,q,_,_,_⟩:=Vw a f o;exact⟨f,j,o,q,gr.1 n⟩
     ·cases n
    have Yv: ∀a,(uD g).W a=true-> ∃f j,g[a]?=some f/\ops[a]?=some j/\f.wh.isSome=true:=by
     intro a n;simp only[uD]at n;split at n
     ·rename_i f o;obtain⟨j,b,q,_,_,_⟩:=Vw a f o;exact⟨f,j,o,q,n⟩
     ·cases n
    have Vf: ∀(K:List (Nat×List M)) (ah:List Nat) (k:Nat),k∈K.map (·.1)->k∈ah->(K.any λco=>has ah co.1)=true:=by
     intro K ah k u w;rw[awG];obtain⟨co,hp,rfl⟩:=ava.1 u;exact⟨co,hp,gr.2 w⟩
    have rt:Ag ops.toArray s e (S st g (λ_=>true) c) (S st g (λa=>i.getD a false) ops.length):=by
     refine⟨?_,?_,?_,?_⟩
     ·intro k ht;refine mP (k9 g k) _ c ops.length (by omega) ?_ ?_
      ·intro a p n;obtain⟨f,j,o,q,_,P⟩:=T6 k a n;refine d7 a f p o j q ?_;have:has (slotsOf ops.toArray s) k=true:=gr.2 (by simp[slotsOf,ht]);simp[dU,P,this]
      ·intro a p P7 n;by_cases G:a=c
       ·rw[G];exact A
       ·obtain⟨f,j,o,q,_,P⟩:=T6 k a n;refine T a f (by omega) o j q ?_;have:has (slotsOf ops.toArray s) k=true:=gr.2 (by simp[slotsOf,ht]);simp[dU,P,this]
     ·intro k ht;refine mP (mQ g k) _ c ops.length (by omega) ?_ ?_
      ·intro a p n;obtain⟨f,j,o,q,Ti⟩:=Ve k a n;refine d7 a f p o j q ?_;have:=Vf f.wb _ k Ti ht;simp[dU,this]
      ·intro a p P7 n;by_cases G:a=c
       ·rw[G];exact A
       ·obtain⟨f,j,o,q,Ti⟩:=Ve k a n;refine T a f (by omega) o j q ?_;have:=Vf f.wb _ k Ti ht;simp[dU,this]
     ·intro I;refine mP (uD g) _ c ops.length (by omega) ?_ ?_
      ·intro a p n;obtain⟨f,j,o,q,XA⟩:=Yv a n;refine d7 a f p o j q ?_;simp only[awD]at I;rcases I with I|I<;>simp[dU,XA,I]
      ·intro a p P7 n;by_cases G:a=c
       ·rw[G];exact A
       ·obtain⟨f,j,o,q,XA⟩:=Yv a n;refine T a f (by omega) o j q ?_;simp only[awD]at I;rcases I with I|I<;>simp[dU,XA,I]
     ·intro d N k oo y;have rx: ∀l,l<=ops.length->get (S st g (λa=>i.getD a false) l).sl k=some (.loc d oo)->False:=by
       intro l
       induction l with
       |zero=>
        intro _ y;exact y9 (Z8 c e d r N) y
       |succ l Z_=>
        intro hn y;simp only[S]at y;cases Re:g[l]? with
        |none=>simp only[Re]at y;exact Z_ (by omega) y
        |some f=>
         simp only[Re]at y;cases z:i.getD l false with
         |false=>rw[z]at y;exact Z_ (by omega) y
         |true=>
          rw[z]at y;simp only[avx,Ef.app]at y;obtain⟨j,b,q,t,P,_⟩:=Vw l f Re;cases Ru:f.d with
          |none=>simp only[Ru]at y;exact Z_ (by omega) y
          |some d'=>
           simp only[Ru]at y;rcases bT y with⟨_,w⟩|⟨_,w⟩
           ·have PS:l≠c:=by rintro rfl;rw[z]at A;cases A
            rcases Nat.lt_or_gt_of_ne PS with PP|t3
            ·have:=(hP l c j f s e bi PP q Re E r Ux).2;simp[rP,N,<-w]at this
            ·have:=T l f t3 Re j q (by simp[dU,N,<-w]);rw[this]at z;cases z
           ·exact Z_ (by omega) w
      exact rx _ (auK _) y
    have t4:=WR _ rt (DS ac i6 (λa f h p hL n=>(i7.mem a f p h n).resolve_right λz=>by
     have G:a≠c:=by rintro rfl;rw[A]at hL;cases hL
     obtain⟨b,t,Ux⟩:=DR z c Z (avH G);have:=QT a b hL t c Ux;rw[A]at this;cases this) _)
    have t5: ∀B C,Inv X (e.app (S st g (λa=>i.getD a false) ops.length)) B C->wpAny X.P .any ops.toArray (λe B C=> ∃x,post e x/\Inv X x B C) R (i.setIfInBounds c true) B C:=by
     intro B C SO;have WS:(λa=>(i.setIfInBounds c true).getD a false)= λa=>if a=c then true else i.getD a false:=by
      funext a
      by_cases p:a=c
      ·subst p;simp[SJ]
      ·simp[p,avO (avH p)]
     refine L _ B C (by simp[Qt]) ?_ ?_ ?_
     ·rw[WS];have:=zg (m:=ops.length) (f:= λa=>i.getD a false) Z A;omega
     ·intro D b hj t a p;have QE:(if D=c then true else i.getD D false)=true:=by rw[<-congrFun WS D];exact hj
      have d8:(if a=c then true else i.getD a false)=true:=by
       by_cases G:a=c
       ·simp[G]
       ·rw[auU G];by_cases d9:D=c
        ·subst d9;rw[Ux]at t;injection t with t;subst t
         exact f9 a p
        ·rw[auU d9]at QE;exact QT D b QE t a p
      rw[<-congrFun WS a]at d8;exact d8
     ·rw[WS];have g1: ∀k,get (S st g (λa=>if a=c then true else i.getD a false) ops.length).sl k=get (e.app (S st g (λa=>i.getD a false) ops.length)).sl k:=by
       intro k;refine tz (k9 g k) _ c ops.length Z e r A ?_;intro XB a p P7 UU;obtain⟨f,j,o,q,_,P⟩:=T6 k a UU;obtain⟨f',x',J,QM,_,t6⟩:=T6 k c XB;rw[E]at QM;injection QM with QM;subst QM
       refine T a f p o j q ?_;have:has (slotsOf ops.toArray s) k=true:=gr.2 (by simp[slotsOf,t6]);simp[dU,P,this]
      have g2: ∀k,get (S st g (λa=>if a=c then true else i.getD a false) ops.length).bx k=get (e.app (S st g (λa=>i.getD a false) ops.length)).bx k:=by
       intro k;refine tz (mQ g k) _ c ops.length Z e r A ?_;intro XB a p P7 UU;obtain⟨f,j,o,q,Ti⟩:=Ve k a UU;obtain⟨f',x',J,QM,YF⟩:=Ve k c XB;rw[r]at J;injection J with J;subst J
       refine T a f p o j q ?_;have:=Vf f.wb (e.rb++e.wb.map (·.1)) k Ti (auS.2 (.inr YF));simp[dU,this]
      have g3:(S st g (λa=>if a=c then true else i.getD a false) ops.length).H=(e.app (S st g (λa=>i.getD a false) ops.length)).H:=by
       refine tz (uD g) _ c ops.length Z e r A ?_;intro XB a p P7 UU;obtain⟨f,j,o,q,XA⟩:=Yv a UU;obtain⟨f',x',J,QM,t7⟩:=Yv c XB;rw[r]at J;injection J with J;subst J
       refine T a f p o j q ?_;simp[dU,XA,t7]
      have:=Inv.o5 (X:=X) (sl:=(e.app (S st g (λa=>i.getD a false) ops.length)).sl) (bx:=(e.app (S st g (λa=>i.getD a false) ops.length)).bx) (H:=(e.app (S st g (λa=>i.getD a false) ops.length)).H)
       (P9:=(S st g (λa=>if a=c then true else i.getD a false) ops.length).sl) (Qr:=(S st g (λa=>if a=c then true else i.getD a false) ops.length).bx) SO
       (λk v hv=>by rw[<-g1];exact hv) g2
      rw[<-g3]at this;exact this
    have:=t4 Q U d6 (wpAny X.P .any ops.toArray (λe B C=> ∃x,post e x/\Inv X x B C) R (i.setIfInBounds c true)) (λe B C=> ∃x,post e x/\Inv X x B C) t5;unfold wpOp;have t8:ops.toArray[c]?=some s:=by simpa using E
    simp only[t8];split
    ·rename_i n;rw[au2 n]at this;exact .inl this
    ·rename_i n;rw[auU n]at this;exact this
 refine t9 _ _ Q _ (by simp) ?_ ?_ ?_
 ·have: ∀l,qd l (λa=>(Array.replicate ops.toArray.size false).getD a false)=l:=by
   intro l
   induction l with
   |zero=>rfl
   |succ l L=>
    simp only[qd,L];have:(Array.replicate ops.toArray.size false).getD l false=false:=by simp[awb];split<;>rfl
    rw[this];rfl
  simpa using this ops.length
 ·intro D b hj;have:(Array.replicate ops.toArray.size false).getD D false=false:=by simp[awb];split<;>rfl
  rw[this]at hj;cases hj
 ·have hz: ∀l,S st g (λa=>(Array.replicate ops.toArray.size false).getD a false) l=st:=by
   intro l
   induction l with
   |zero=>rfl
   |succ l L=>
    have:(Array.replicate ops.toArray.size false).getD l false=false:=by simp[awb];split<;>rfl
    simp only[S,L,this];cases g[l]?<;>rfl
  rw[hz];obtain⟨σ,Pw,rfl,V⟩:=V;exact⟨{σ with w:= {σ.w with drawn:=σ.w.drawn+1} },Pw,rfl,V.ext (gG.drew _)⟩
theorem qh.fi{X:bJ}{b:Hp->Prop}{ops:Array Oper}{l:List Oper}{st a:St}{es:List Ef}(h:qh X ops l st es a):vm X b ops l st es a:=by
 induction h with
 |nil st=>exact .nil st
 |cons h c g d=>exact .cons (λe f _=>h e f) c d
theorem oa.all{a:Hp->Prop}{ops:List Oper} : ∀{es:List Ef} {n:Nat},(∀e∈es,∀h,e.wh=some h->a h)->oa a ops n es
 | [],_,_=>trivial
 |e::f,n,h=>⟨by split;trivial;rename_i c;exact .inl (h e avj _ c),oa.all λb d=>h b (au7 _ d)⟩
theorem TC.draw{X:bJ}{c:Nat}{ops:List Oper}{st:St}{post:Exit->St->Prop}(d:X.P.follows .mixedOrders=true)
  (h:TF X ops.toArray ops st λa b=>gL ops st.sl a=true/\post .normal b):TC X (.region c ops.toArray true) st post:=by
 obtain⟨a,b,e,f,g⟩:=h;exact TC.FJ (λ_=>True) trivial d ⟨a,b,e.fi,f,.all λ_ _ _ _=>trivial,g⟩
end Go.Mt
